/- package epoch: Retire, Collect. -/
import Derived.Test.YtpobpijjpbggoaaEp2
set_option linter.unusedSimpArgs false
set_option linter.unusedVariables false
namespace Go.Proofs.Ytpobpijjpbggoaa
open Go.RowKit Go.Ten
theorem info_ret : (Try.prog.info? 148).map (fun i => (i.zero.map (fun z => z.cells.size), i.size, i.bytes)) = some (some 2, 2, 16) := by kernel_rfl
theorem info_ret2 : (Try.prog.info? 148).map (fun i => (i.zero, i.size, i.bytes)) = some (some (.agg #[.int .i64 0, .int .i64 0]), 2, 16) := by kernel_rfl

set_option maxRecDepth 100000 in
set_option maxHeartbeats 1000000 in
theorem ep_retire_calls (b : Nat) (E : MemF.Ep) (X : EW) (c r : Int) (w : World) (h : EpX w b E X) (hE : MemF.EpOk E) :
    Calls Try.prog 39 #[.pointer (some ⟨b, 0, none⟩), .int .i64 c, .int .i64 r] w fun e w' => e = .returned (.int .i64 (E.retire c r).2) ∧ EpStep w b X w' (E.retire c r).1 := by
  have hof := ep_of_calls b E X c w h
  have hparts := word_parts_calls r w
  unfold partsV at hparts
  have hX := Lib.hid h
  have hR : E.retire c r = if c < 0 ∨ E.clients.length ≤ c.toNat ∨ (MemF.parts r).2.2.2 = false then (E, 1) else if E.room ≤ (E.clients[c.toNat]!).limbo.length then (E, 2) else (E.setC c { E.clients[c.toNat]! with limbo := (E.clients[c.toNat]!).limbo ++ [(r, E.now)] }, 0) := rfl
  generalize MemF.parts r = P at *
  obtain ⟨n0, g0, l0, ok⟩ := P
  simp only at hparts hR
  rcases cl_cases (E := E) c with hb | ⟨i, rfl, hi⟩
  · rw [if_pos (by rcases hb with hb | hb; exact .inl hb; exact .inr (.inl hb))] at hR
    rw [hR]
    rw [ofP_bad hb] at hof
    clear hR hb h
    go_enter Try.func39, Try.ntmps39
    go_wp2_with fail
    refine hof.mono ?_
    rintro e w1 ⟨rfl, rfl⟩
    go_wp2_with fail
    refine hparts.mono ?_
    rintro e w1 ⟨rfl, rfl⟩
    go_wp2_with fail
    go_ret
    exact ⟨rfl, EpStep.same hX.out⟩
  · rw [ofP_ok hi] at hof
    rw [Int.toNat_natCast] at hR
    cases ok with
    | false =>
      rw [if_pos (.inr (.inr rfl))] at hR
      rw [hR]
      clear hR h hi
      go_enter Try.func39, Try.ntmps39
      go_wp2_with fail
      refine hof.mono ?_
      rintro e w1 ⟨rfl, rfl⟩
      go_wp2_with fail
      refine hparts.mono ?_
      rintro e w1 ⟨rfl, rfl⟩
      go_wp2_with fail
      go_ret
      exact ⟨rfl, EpStep.same hX.out⟩
    | true =>
      rw [if_neg (by simp; omega)] at hR
      have hc := h.blk.cell
      have c1 := h.cell i 1 hi (by omega)
      have hf := h.row.frozen
      simp only [clC, List.getElem?_cons_zero, List.getElem?_cons_succ] at c1
      obtain ⟨p, cp, h1, h2⟩ := h.limbo i hi
      have hlim := hE.limbo _ (get!_mem E.clients i hi)
      have hroom := hE.room
      obtain ⟨s, hs⟩ : ∃ s, E.clients[i]! = s := ⟨_, rfl⟩
      rw [hs] at hR h1 h2 hlim
      rw [h1] at c1
      obtain ⟨N, hN⟩ : ∃ N, s.limbo.length = N := ⟨_, rfl⟩
      rw [hN] at hR c1 hlim h2
      obtain ⟨hr1, hr2⟩ := hroom
      by_cases hfull : E.room ≤ N
      · rw [if_pos hfull] at hR
        rw [hR]
        obtain ⟨m, hm⟩ : ∃ m, E.room = m := ⟨_, rfl⟩
        rw [hm] at hfull hc hlim hr1 hr2
        clear hR h hi h1 h2 hs hN hm hE
        go_enter Try.func39, Try.ntmps39
        go_wp2_with fail
        refine hof.mono ?_
        rintro e w1 ⟨rfl, rfl⟩
        go_wp2_with fail
        refine hparts.mono ?_
        rintro e w1 ⟨rfl, rfl⟩
        go_wp2_with fail
        refine undraw ?hB ?_
        case hB => kernel_rfl
        intro K hK
        simp only [Undraw.withAsks, Undraw.asksOf, Undraw.intsOf, Undraw.strsOf, List.contains, List.elem, Nat.reduceBEq, if_true, List.map_nil, List.map_cons, List.nil_append, List.append_nil, List.cons_append]
        go_wp2_with fail
        go_ret
        refine ⟨rfl, X, ?_⟩
        exact ⟨hX.out.upd (S := fun _ => False) ((Upd.refl _ _).drew) (fun _ _ h => h), fun _ h => .inl h, (Upd.refl _ _).drew⟩
      · rw [if_neg hfull] at hR
        rw [hR]
        obtain ⟨m, hm⟩ : ∃ m, E.room = m := ⟨_, rfl⟩
        rw [hm] at hfull hc hlim hr1 hr2
        have hN64 : N < 64 := by omega
        have hfI : (N : Int) < m := by omega
        replace h2 := Lib.hid h2
        have hs' := Lib.hid hs
        have hN' := Lib.hid hN
        have hi' := Lib.hid hi
        have h1' := Lib.hid h1
        clear hR h hi h1 hs hN hm hE hfull
        go_enter Try.func39, Try.ntmps39
        go_wp2_with fail
        refine hof.mono ?_
        rintro e w1 ⟨rfl, rfl⟩
        go_wp2_with fail
        refine hparts.mono ?_
        rintro e w1 ⟨rfl, rfl⟩
        go_wp2_with fail
        refine undraw ?hB ?_
        case hB => kernel_rfl
        intro K hK
        simp only [Undraw.withAsks, Undraw.asksOf, Undraw.intsOf, Undraw.strsOf, List.contains, List.elem, Nat.reduceBEq, if_true, List.map_nil, List.map_cons, List.nil_append, List.append_nil, List.cons_append]
        go_wp2_with fail
        refine undraw ?hB2 ?_
        case hB2 => kernel_rfl
        intro K2 hK2
        simp only [Undraw.withAsks, Undraw.asksOf, Undraw.intsOf, Undraw.strsOf, List.contains, List.elem, Nat.reduceBEq, if_true, List.map_nil, List.map_cons, List.nil_append, List.append_nil, List.cons_append]
        go_wp2_with (refine wpl_appendk _ (.tmp 42) (.tmp 49) 125 148 rfl rfl 2 16 Try.underlying125 info_ret (by decide) (by decide) p N cp (s.limbo.flatMap retC) 0 w.heap.size [.int .i64 r, .int .i64 E.now] rfl rfl rfl ?q0 (Nat.zero_le _) ?q3 ?q1 ?q2 ?_)
        try (case q0 => exact (World.ownsRow.alloc (w := w) h2.out _))
        case q3 => exact two_new w _ _ _
        case q1 => intro u hu; simp at hu; rcases hu with rfl | rfl <;> rfl
        case q2 => omega
        intro g cp' w2 hown hupd hg
        have hX := hX.out
        have hs := hs'.out
        have h1 := h1'.out
        have hN := hN'.out
        have hi := hi'.out
        have hv : i < X.vs.length := by rw [hX.vlen]; exact hi
        have hvm := get!_mem X.vs i hv
        have hupd' : Upd (fun k => some k = (Value.slice p N cp).ownBlock) w w2 := (((Upd.refl _ w).alloc _).drew.drew).trans hupd (fun k _ h => h)
        have hgs : ¬ some X.gs = (Value.slice p N cp).ownBlock := fun e => (hX.ne1 _ hvm).2 (by rw [h1, hN]; exact e.symm)
        have hrow2 := hupd'.blk hgs hX.row
        have hc2 : w2.cell? ⟨X.gs, i * 2 + 1, none⟩ = some (.slice p N cp) := by
          rw [hrow2.flat clC_len i 1 (by rw [List.length_zip, hX.vlen]; omega) (by omega), List.getElem_zip]
          have e1 : X.vs[i] = .slice p N cp := by rw [getElem!_pos X.vs i hv, hN] at h1; exact h1
          simp [clC, e1]
        have hf2 := hrow2.frozen
        have hggs : g ≠ X.gs := by
          intro e
          rcases hg with hg | hg
          · exact hgs (by rw [hg, e]; rfl)
          · have := hX.row.lt; omega
        have hg2 : p = some ⟨g, 0, none⟩ ∨ w.heap.size ≤ g := by
          rcases hg with hg | hg
          · exact .inl hg
          · exact .inr (by omega)
        have hup3 : Upd (fun k => k = X.gs ∨ (X.vs[i]!).ownBlock = some k) w (w2.setCell ⟨X.gs, i * 2 + 1, none⟩ (.slice (some ⟨g, 0, none⟩) (N + 1) cp')) :=
          (hupd'.mono (fun k _ e => .inr (by rw [h1, hN]; exact e.symm))).setCell (p := ⟨X.gs, i * 2 + 1, none⟩) (.inl (.inl rfl)) _
        have hown3 := ownsRow_setCell_off (a := ⟨X.gs, i * 2 + 1, none⟩) hown (by simp [Value.ownBlock]; exact hggs) (.slice (some ⟨g, 0, none⟩) (N + 1) cp')
        have hlen : (s.limbo ++ [(r, E.now)]).length = N + 1 := by simp [hN]
        have hok : ∀ k, (Value.slice (some ⟨g, 0, none⟩) (N + 1) cp').ownBlock = some k → (X.vs[i]!).ownBlock = some k ∨ w.heap.size ≤ k := by
          intro k hk
          have : k = g := by simpa [Value.ownBlock] using hk.symm
          subst this
          rcases hg2 with e | e
          · left; rw [h1, e]; rfl
          · exact .inr e
        have hfin := hX.setG i 1 hi (by omega) { s with limbo := s.limbo ++ [(r, E.now)] } (some ⟨g, 0, none⟩) cp' (.slice (some ⟨g, 0, none⟩) (N + 1) cp') (by simp only [hlen]; rw [hs, h1]; rfl) hup3
          (fun xs hx => (hupd'.blk hgs hx).setCell _ _) (by simp only [hlen, List.flatMap_append]; exact hown3) (by simp only [hlen]; exact hok)
        simp only [hlen] at hfin
        replace hfin := Lib.hid hfin
        replace hup3 := Lib.hid hup3
        replace hok := Lib.hid hok
        replace hown := Lib.hid hown
        replace hown3 := Lib.hid hown3
        replace hupd := Lib.hid hupd
        replace hupd' := Lib.hid hupd'
        replace hg := Lib.hid hg
        replace hg2 := Lib.hid hg2
        clear hs h1 hN hlen
        go_wp2_with fail
        go_ret
        exact ⟨rfl, _, hfin.out, fun k hk => EF_set hv hok.out hk, hup3.out.mono fun k _ e => by
          rcases e with e | e
          · exact .inr (.inl e)
          · exact .inr (.inr ⟨_, hvm, e⟩)⟩
end Go.Proofs.Ytpobpijjpbggoaa
