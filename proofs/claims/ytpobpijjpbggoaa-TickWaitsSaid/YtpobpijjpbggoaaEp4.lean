/- package epoch: Collect, New. -/
import Derived.Test.YtpobpijjpbggoaaEp3
set_option linter.unusedSimpArgs false
set_option linter.unusedVariables false
namespace Go.Proofs.Ytpobpijjpbggoaa
open Go.RowKit Go.Ten

set_option maxRecDepth 100000 in
set_option maxHeartbeats 1000000 in
/-- slices.Clone of what was retired. -/
theorem clone_ret_calls (g off n c : Nat) (cs : List Value) (w : World) (hl : cs.length = n * 2) (hn : n ≤ 4096) (h1 : ∀ u ∈ cs, u.oneCell' = true) (hcell : ∀ j u, cs[j]? = some u → w.cell? ⟨g, off + j, none⟩ = some u) :
    Calls Try.prog 103 #[.slice (some ⟨g, off, none⟩) n c] w fun e w' => ∃ p' c', e = .returned (.slice p' n c') ∧ w'.ownsRow w.heap.size 148 2 (.slice p' n c') n cs ∧ Below w.heap.size w w' := by
  obtain ⟨i0, hi, hz0, hz1, hz2⟩ := info_parts info_ret2
  have A := Lib.hid hcell
  clear hcell
  have hl' := Lib.hid hl
  clear hl
  have h1' := Lib.hid h1
  clear h1
  have q : ∀ (w : World) (a : Option Addr) (n c n' c' : Nat), (binOp .eql 125 (.slice a n c) (.slice none n' c')).run Try.prog w = .ok (.bool a.isNone) w := fun w a n c n' c' => Lib.run_eql_slice_nil w _ _ a n c n' c' Try.underlying125
  go_enter Try.func103, Try.ntmps103
  go_wp2_with (at_builtin; refine wpList_append_own _ rfl _ _ 125 rfl w.heap.size 148 i0 (.agg #[.int .i64 0, .int .i64 0]) 2 16 Try.underlying125 hi hz0 hz1 hz2 rfl (by decide) _ _ _ rfl (World.ownsRow_made w #[] 0 (Nat.le_refl _) (Nat.zero_le _) rfl) ⟨g, off, none⟩ n c cs rfl ?qc1 ?qc2 ?qc3 ?qc4 ?qc5 ?qc6 ?_)
  case qc1 => exact hl'.out
  case qc2 =>
    intro j u hj
    rw [Addr.add_lit]
    exact Lib.cell?_alloc_some _ (A.out j u hj)
  case qc3 => exact h1'.out
  case qc4 => unfold maxLen; omega
  case qc5 => omega
  case qc6 => simp
  intro v' w1 hown hgrow hnil
  go_wp2
  go_ret
  have hB : Below w.heap.size w w1 := ((Below.refl _ w).alloc (Nat.le_refl _) _).grown hgrow (by simp) (by intro k hk; simp [Value.ownBlock] at hk; omega)
  have hown : w1.ownsRow w.heap.size 148 2 v' n cs := by simpa using hown
  obtain ⟨p', c', rfl, hp0, hp1⟩ := own_form hown
  exact ⟨p', c', rfl, hown, hB⟩

set_option maxRecDepth 100000 in
set_option maxHeartbeats 1000000 in
theorem ep_collect_calls (b : Nat) (E : MemF.Ep) (X : EW) (c : Int) (w : World) (h : EpX w b E X) (hE : MemF.EpOk E) :
    Calls Try.prog 79 #[.pointer (some ⟨b, 0, none⟩), .int .i64 c] w fun e w' => e = .returned (.tuple #[.int .i64 (E.collect c).2.1, .bool (E.collect c).2.2]) ∧ EpStep w b X w' (E.collect c).1 := by
  have hof := ep_of_calls b E X c w h
  have hX := Lib.hid h
  have hstay : EpStep w b X w.drew E := ⟨X, hX.out.upd (S := fun _ => False) ((Upd.refl _ _).drew) (fun _ _ h => h), fun _ h => .inl h, (Upd.refl _ _).drew⟩
  replace hstay := Lib.hid hstay
  rcases cl_cases (E := E) c with hb | ⟨i, rfl, hi⟩
  · have hR : E.collect c = (E, 0, false) := by unfold MemF.Ep.collect; rw [if_pos hb]
    rw [hR]
    rw [ofP_bad hb] at hof
    clear hR hb h
    go_enter Try.func79, Try.ntmps79
    go_wp2_with fail
    refine hof.mono ?_
    rintro e w1 ⟨rfl, rfl⟩
    go_wp2_with fail
    refine undraw ?hB1 ?_
    case hB1 => kernel_rfl
    intro K hK
    simp only [Undraw.withAsks, Undraw.asksOf, Undraw.intsOf, Undraw.strsOf, List.contains, List.elem, Nat.reduceBEq, if_true, List.map_nil, List.map_cons, List.nil_append, List.append_nil, List.cons_append]
    go_wp2_with fail
    go_ret2
    exact ⟨rfl, hstay.out⟩
  · rw [ofP_ok hi] at hof
    have hc := h.blk.cell
    have c1 := h.cell i 1 hi (by omega)
    have hf := h.row.frozen
    simp only [clC, List.getElem?_cons_zero, List.getElem?_cons_succ] at c1
    obtain ⟨p, cp, h1, h2⟩ := h.limbo i hi
    have hlim := hE.limbo _ (get!_mem E.clients i hi)
    have hroom := hE.room
    have hat := hE.at_ _ (get!_mem E.clients i hi)
    have hR : E.collect i = (match (E.clients[i]!).limbo with | [] => (E, 0, false) | (r, n) :: l => if E.now - n < 2 then (E, 0, false) else (E.setC i { E.clients[i]! with limbo := l }, r, true)) := by
      unfold MemF.Ep.collect; rw [if_neg (by omega), Int.toNat_natCast]; rfl
    obtain ⟨s, hs⟩ : ∃ s, E.clients[i]! = s := ⟨_, rfl⟩
    rw [hs] at hR h1 h2 hlim hat
    rw [h1] at c1
    cases hli : s.limbo with
    | nil =>
      rw [hli] at hR c1
      simp only at hR
      rw [hR]
      clear hR h hi h1 h2 hs hE hlim hat
      go_enter Try.func79, Try.ntmps79
      go_wp2_with fail
      refine hof.mono ?_
      rintro e w1 ⟨rfl, rfl⟩
      go_wp2_with fail
      refine undraw ?hB2 ?_
      case hB2 => kernel_rfl
      intro K hK
      simp only [Undraw.withAsks, Undraw.asksOf, Undraw.intsOf, Undraw.strsOf, List.contains, List.elem, Nat.reduceBEq, if_true, List.map_nil, List.map_cons, List.nil_append, List.append_nil, List.cons_append]
      go_wp2_with fail
      go_ret2
      exact ⟨rfl, hstay.out⟩
    | cons x l =>
      obtain ⟨r, n⟩ := x
      rw [hli] at hR c1 h2 hlim hat
      have h1' := h1
      rw [hli] at h1'
      simp only at hR
      obtain ⟨hn0, hn1⟩ := hat (r, n) (by simp)
      simp only at hn0 hn1
      obtain ⟨he0, he1⟩ := hE.now
      obtain ⟨N, hN⟩ : ∃ N, l.length = N := ⟨_, rfl⟩
      rw [List.length_cons, hN] at c1 h2 hlim h1'
      have hN64 : N < 64 := by omega
      obtain ⟨p', cap', hv, hp0, hp1⟩ := own_form h2
      simp only [Value.slice.injEq] at hv
      obtain ⟨rfl, -, rfl⟩ := hv
      rcases p with _ | a
      · have := hp0 rfl; omega
      have ha := hp1 a rfl
      generalize a.block = g at ha
      subst ha
      have hcr := CellsR.of_owns h2 (by omega)
      obtain ⟨p2, c2, hv2, hle, -, -, -, hcell⟩ := hcr
      simp only [Value.slice.injEq] at hv2
      obtain ⟨rfl, -, rfl⟩ := hv2
      have hcell' : ∀ j u, (((r, n) :: l).flatMap retC)[j]? = some u → w.cell? ⟨g, j, none⟩ = some u := by
        intro j u hj
        obtain ⟨b', o', e, hc'⟩ := hcell j u hj
        cases e
        simpa using hc'
      have d0 := hcell' 0 (.int .i64 r) rfl
      have d1 := hcell' 1 (.int .i64 n) rfl
      have dl : ∀ j u, (l.flatMap retC)[j]? = some u → w.cell? ⟨g, 2 + j, none⟩ = some u := by
        intro j u hj
        refine hcell' (2 + j) u ?_
        rw [List.flatMap_cons, List.getElem?_append_right (by rw [retC_len]; omega), retC_len]
        simpa using hj
      obtain ⟨m, hm⟩ : ∃ m, E.now = m := ⟨_, rfl⟩
      rw [hm] at hR hc he0 he1 hn1
      obtain ⟨M, hM⟩ : ∃ M, N + 1 = M := ⟨_, rfl⟩
      have hM1 : 1 ≤ M := by omega
      have hMc : M ≤ cp := by omega
      have hM64 : M ≤ 64 := by omega
      have hNM : N = M - 1 := by omega
      have hM0 : ((M : Int) == 0) = false := by simp; omega
      have hM0' : ¬ M = 0 := by omega
      have hM2 : 0 < M := by omega
      have hM3 : (1 : Int) ≤ M := by omega
      replace hm := Lib.hid hm
      rw [hM] at c1 h1' h2
      subst hNM
      replace hM := Lib.hid hM
      by_cases hlt : m - n < 2
      · rw [if_pos hlt] at hR
        rw [hR]
        clear hR h hi h1 h1' h2 hs hE hlim hat hcell hcell' dl hp0 hp1 hli hN hN64 hle
        go_enter Try.func79, Try.ntmps79
        go_wp2_with fail
        refine hof.mono ?_
        rintro e w1 ⟨rfl, rfl⟩
        go_wp2_with fail
        refine undraw ?hB3 ?_
        case hB3 => kernel_rfl
        intro K hK
        simp only [Undraw.withAsks, Undraw.asksOf, Undraw.intsOf, Undraw.strsOf, List.contains, List.elem, Nat.reduceBEq, if_true, List.map_nil, List.map_cons, List.nil_append, List.append_nil, List.cons_append]
        go_wp2_with fail
        go_ret2
        exact ⟨rfl, hstay.out⟩
      · rw [if_neg hlt] at hR
        rw [hR]
        have hge : 2 ≤ m - n := by omega
        clear hlt
        have hone : ∀ u ∈ l.flatMap retC, u.oneCell' = true := by
          intro u hu
          obtain ⟨x, _, hx⟩ := List.mem_flatMap.1 hu
          simp [retC] at hx
          rcases hx with rfl | rfl <;> rfl
        have hlenc : (l.flatMap retC).length = (M - 1) * 2 := by rw [flat_len retC 2 retC_len, hN]
        have hlts := h.lt
        have hgs : g ≠ X.gs := by
          intro e
          exact (h.ne1 _ (get!_mem X.vs i (by rw [h.vlen]; exact hi))).2 (by rw [h1', e]; rfl)
        have hltg := h.row.lt
        replace hN := Lib.hid hN
        have hs' := Lib.hid hs
        have hi' := Lib.hid hi
        replace h1 := Lib.hid h1
        replace h1' := Lib.hid h1'
        replace hlts := Lib.hid hlts
        replace hone := Lib.hid hone
        replace hlenc := Lib.hid hlenc
        replace dl := Lib.hid dl
        clear hR h hi h2 hs hE hlim hat hcell hcell' hp0 hp1 hli
        have hend : ∀ (p' : Option Addr) (c' : Nat) (w3 : World), w3.ownsRow w.drew.heap.size 148 2 (.slice p' (M - 1) c') (M - 1) (l.flatMap retC) → Below w.drew.heap.size w.drew w3 →
            w3.cell? ⟨X.gs, i * 2 + 1, none⟩ = some (.slice (some ⟨g, 0, none⟩) M cp) ∧ w3.frozen? ⟨X.gs, i * 2 + 1, none⟩ = false ∧ EpStep w b X (w3.setCell ⟨X.gs, i * 2 + 1, none⟩ (.slice p' (M - 1) c')) (E.setC i { s with limbo := l }) := by
          intro p' c' w3 ho hB
          have hX := hX.out
          have hup : Upd (fun _ => False) w w3 := ((Upd.refl _ w).drew).trans (Upd.of_below' hB) (fun _ _ h => h)
          have hr := hup.blk (fun h => h) hX.row
          refine ⟨by rw [hup.cell (p := ⟨X.gs, i * 2 + 1, none⟩) (fun h => h) c1], hr.frozen _, ?_⟩
          have hv : i < X.vs.length := by rw [hX.vlen]; exact hi'.out
          have hvm := get!_mem X.vs i hv
          have hok : ∀ k, (Value.slice p' (M - 1) c').ownBlock = some k → (X.vs[i]!).ownBlock = some k ∨ w.heap.size ≤ k := fun k hk => .inr (own_ge ho hk)
          have hup3 : Upd (fun k => k = X.gs ∨ (X.vs[i]!).ownBlock = some k) w (w3.setCell ⟨X.gs, i * 2 + 1, none⟩ (.slice p' (M - 1) c')) :=
            (hup.mono (fun k _ e => e.elim)).setCell (p := ⟨X.gs, i * 2 + 1, none⟩) (.inl (.inl rfl)) _
          have hfin := hX.setG i 1 hi'.out (by omega) { s with limbo := l } p' c' (.slice p' (M - 1) c') (by simp only [hN.out]; rw [hs'.out, h1'.out]; rfl) hup3
            (fun xs hx => (hup.blk (fun h => h) hx).setCell _ _) (by simp only [hN.out]; exact ownsRow_setCell_off (owns_base ho (Nat.zero_le _)) (fun e => by have := own_ge ho e; have e2 : w.drew.heap.size = w.heap.size := rfl; simp only at this; omega) _) (by simp only [hN.out]; exact hok)
          simp only [hN.out] at hfin
          exact ⟨_, hfin, fun k hk => EF_set hv hok hk, hup3.mono fun k _ e => by
            rcases e with e | e
            · exact .inr (.inl e)
            · exact .inr (.inr ⟨_, hvm, e⟩)⟩
        replace hend := Lib.hid hend
        by_cases hcap : cp = 1
        · have hN0 : M = 1 := by omega
          subst hN0
          subst hcap
          have hcl := clone_ret_calls g 0 0 0 (l.flatMap retC) w.drew (by rw [hlenc.out]) (by omega) hone.out (fun j u hj => by have := (List.getElem?_eq_some_iff.1 hj).1; rw [hlenc.out] at this; omega)
          go_enter Try.func79, Try.ntmps79
          go_wp2_with fail
          refine hof.mono ?_
          rintro e w1 ⟨rfl, rfl⟩
          go_wp2_with fail
          refine undraw ?hB4 ?_
          case hB4 => kernel_rfl
          intro K hK
          simp only [Undraw.withAsks, Undraw.asksOf, Undraw.intsOf, Undraw.strsOf, List.contains, List.elem, Nat.reduceBEq, if_true, List.map_nil, List.map_cons, List.nil_append, List.append_nil, List.cons_append]
          go_wp2_with fail
          refine hcl.mono ?_
          rintro e w3 ⟨p', c', rfl, ho, hB⟩
          obtain ⟨z1, z2, z3⟩ := hend.out p' c' w3 ho hB
          replace z3 := Lib.hid z3
          clear hcl
          go_wp2_with fail
          go_ret2
          exact ⟨rfl, z3.out⟩
        · have hcap1 : ¬ 1 = cp := fun e => hcap e.symm
          have hcl := clone_ret_calls g 2 (M - 1) (cp - 1) (l.flatMap retC) w.drew (by rw [hlenc.out]) (by omega) hone.out dl.out
          go_enter Try.func79, Try.ntmps79
          go_wp2_with fail
          refine hof.mono ?_
          rintro e w1 ⟨rfl, rfl⟩
          go_wp2_with fail
          refine undraw ?hB5 ?_
          case hB5 => kernel_rfl
          intro K hK
          simp only [Undraw.withAsks, Undraw.asksOf, Undraw.intsOf, Undraw.strsOf, List.contains, List.elem, Nat.reduceBEq, if_true, List.map_nil, List.map_cons, List.nil_append, List.append_nil, List.cons_append]
          go_wp2_with fail
          refine hcl.mono ?_
          rintro e w3 ⟨p', c', rfl, ho, hB⟩
          obtain ⟨z1, z2, z3⟩ := hend.out p' c' w3 ho hB
          replace z3 := Lib.hid z3
          clear hcl
          go_wp2_with fail
          go_ret2
          exact ⟨rfl, z3.out⟩

theorem info_client : (Try.prog.info? 127).map (fun i => (i.zero.map (fun z => z.cells.size), i.size, i.bytes)) = some (some 2, 2, 32) := by kernel_rfl
def NewEp (n : Nat) (room : Int) (w : World) (e : Ending) (w' : World) : Prop := ∃ b X, e = .returned (.tuple #[.pointer (some ⟨b, 0, none⟩), .int .i64 0]) ∧ EpX w' b { now := 0, room := room, clients := List.replicate n ⟨-1, []⟩ } X ∧ (∀ k, EF b X k → w.heap.size ≤ k) ∧ Below w.heap.size w w'
def cl0 (k : Nat) : List Value := (List.replicate k [Value.int .i64 (-1), .slice none 0 0]).flatten
theorem cl0_succ (k : Nat) : cl0 (k + 1) = cl0 k ++ [.int .i64 (-1), .slice none 0 0] := by
  unfold cl0
  rw [List.replicate_succ', List.flatten_append]; simp
theorem cl0_zip (k : Nat) : ((List.replicate k (⟨-1, []⟩ : MemF.Client)).zip (List.replicate k (Value.slice none 0 0))).flatMap clC = cl0 k := by
  induction k with
  | zero => rfl
  | succ k ih => rw [List.replicate_succ, List.replicate_succ, List.zip_cons_cons, List.flatMap_cons, ih]; unfold cl0; rw [List.replicate_succ, List.flatten_cons]; rfl

set_option maxRecDepth 100000 in
set_option maxHeartbeats 1000000 in
theorem ep_new_calls (n : Nat) (room : Int) (w : World) (h1 : 1 ≤ n) (h8 : n ≤ 8) (hr4 : 4 ≤ room) (hr64 : room ≤ 64) :
    Calls Try.prog 33 #[.int .i64 n, .int .i64 room] w (NewEp n room w) := by
  have hn1 : (1 : Int) ≤ n := by omega
  have hn8 : (n : Int) ≤ 8 := by omega
  obtain ⟨b, hb⟩ : ∃ b, w.heap.size = b := ⟨_, rfl⟩
  go_enter Try.func33, Try.ntmps33
  go_wp2_with fail
  have hstart : Blk (w.alloc (.cells #[.int .i64 0, .int .i64 room, .slice none 0 0] 124)) b [.int .i64 0, .int .i64 room, .slice none 0 0] 124 := by
    rw [← hb]; exact Blk.new _ _ _
  have hB0 : Below b w (w.alloc (.cells #[.int .i64 0, .int .i64 room, .slice none 0 0] 124)) := by
    rw [← hb]; exact (Below.refl _ w).alloc (Nat.le_refl _) _
  replace hstart := Lib.hid hstart
  replace hB0 := Lib.hid hB0
  replace hb := Lib.hid hb
  go_loopw [25] (fun vi wr => ∃ (k : Nat) (p : Option Addr) (cap : Nat), vi = .int .i64 k ∧ k ≤ n ∧ Hid (Blk wr b [.int .i64 0, .int .i64 room, .slice p k cap] 124) ∧ Hid (wr.ownsRow (b + 1) 127 2 (.slice p k cap) k (cl0 k)) ∧ Hid (Below b w wr)) (fun v _ => n - (intOf v).toNat)
  case atStart => exact ⟨0, none, 0, rfl, by omega, hstart, World.ownsRow_nil _ _ _ _, hB0⟩
  case round =>
    clear hstart hB0
    obtain ⟨k, p, cap, rfl, hk, hblk, hown, hB⟩ := hrel
    by_cases hlt : k < n
    · have hltI : (k : Int) < (n : Int) := by omega
      have hcell := hblk.out.cell
      have hf := hblk.out.frozen
      have hbl := hblk.out.lt
      go_wp2_with (refine wpl_appendk _ (.tmp 31) (.tmp 33) 122 127 rfl rfl 2 32 Try.underlying122 info_client (by decide) (by decide) p k cap (cl0 k) (b + 1) wr.heap.size [.int .i64 (-1), .slice none 0 0] rfl rfl rfl ?q0 ?q4 ?q3 ?q1 ?q2 ?_)
      try (case q0 => exact (World.ownsRow.alloc (w := wr) hown.out _))
      try (case q4 => (simp; omega))
      try (case q3 => exact two_new wr _ _ _)
      try (case q1 => (intro u hu; simp at hu; rcases hu with rfl | rfl <;> rfl))
      try (case q2 => omega)
      intro g cap' w2 hown2 hupd hg
      have hbo : ¬ some b = (Value.slice p k cap).ownBlock := fun e => by have := own_ge hown.out e.symm; omega
      have hblk2 := hupd.blk hbo (Blk.alloc hblk.out _)
      have hgb : g ≠ b := by
        have := own_ge hown2 (k := g) rfl
        omega
      have c2 := hblk2.cell 2
      have f2 := hblk2.frozen
      have hblk3 := hblk2.setCell 2 (.slice (some ⟨g, 0, none⟩) (k + 1) cap')
      have hown3 := ownsRow_setCell_off (a := ⟨b, 2, none⟩) hown2 (by simp [Value.ownBlock]; exact hgb) (.slice (some ⟨g, 0, none⟩) (k + 1) cap')
      have hup3 : Upd (fun j => j = b ∨ some j = (Value.slice p k cap).ownBlock) wr (w2.setCell ⟨b, 2, none⟩ (.slice (some ⟨g, 0, none⟩) (k + 1) cap')) :=
        (((Upd.refl _ wr).alloc _).trans hupd (fun j _ e => .inr e)).setCell (p := ⟨b, 2, none⟩) (.inl (.inl rfl)) _
      have hB3 : Below b w (w2.setCell ⟨b, 2, none⟩ (.slice (some ⟨g, 0, none⟩) (k + 1) cap')) := hB.out.trans (hup3.below (by omega) fun j hj e => by
        rcases e with e | e
        · omega
        · have := own_ge hown.out e.symm; omega)
      rw [← cl0_succ] at hown3
      simp only [List.set_cons_succ, List.set_cons_zero] at hblk3
      replace hblk3 := Lib.hid hblk3
      replace hown3 := Lib.hid hown3
      replace hB3 := Lib.hid hB3
      replace hup3 := Lib.hid hup3
      replace hupd := Lib.hid hupd
      replace hown2 := Lib.hid hown2
      replace hg := Lib.hid hg
      clear hcell hf
      go_wp2_with fail
      go_roundw
      case rel => exact ⟨k + 1, some ⟨g, 0, none⟩, cap', by simp, by omega, hblk3, hown3, hB3⟩
      case measure => simp [intOf]; omega
    · have : k = n := by omega
      subst this
      go_wp2_with fail
      go_ret2
      have hblk := hblk.out
      have hown := hown.out
      have hB := hB.out
      have hb := hb.out
      obtain ⟨p', cap', hv, hp0, hp1⟩ := own_form hown
      simp only [Value.slice.injEq] at hv
      obtain ⟨rfl, -, rfl⟩ := hv
      rcases p with _ | a
      · have := hp0 rfl; omega
      have ha := hp1 a rfl
      generalize a.block = g at ha
      subst ha
      have hgb := own_ge hown (k := g) rfl
      obtain ⟨_, h2 | ⟨g', c', cur, hv, hg, hh, hn, _, hs, ht⟩⟩ := hown
      · simp at h2
      simp only [Value.slice.injEq, Option.some.injEq, Addr.mk.injEq] at hv
      obtain ⟨⟨rfl, _⟩, _, rfl⟩ := hv
      refine ⟨b, ⟨g, cap, List.replicate k (.slice none 0 0), cur.toList.drop (k * 2)⟩, rfl, ⟨?_, ?_, ?_, ?_, ?_, ?_, ?_, ?_, ?_⟩, ?_, by rw [hb]; exact hB⟩
      · simpa using hblk
      · rw [cl0_zip]
        unfold Blk
        rw [hh, ← ht, List.take_append_drop]
      · simpa using hn
      · simp; omega
      · simp
      · intro i hi
        simp only [List.length_replicate] at hi
        refine ⟨none, 0, ?_, ?_⟩
        · simp [hi]
        · have e : (List.replicate k (⟨-1, []⟩ : MemF.Client))[i]! = ⟨-1, []⟩ := by simp [hi]
          rw [e]
          exact World.ownsRow_nil _ _ _ _
      · show b ≠ g
        omega
      · intro v hv
        rw [List.mem_replicate] at hv
        rw [hv.2]
        simp [Value.ownBlock]
      · intro i j k2 hi hj h3 h4
        simp only [List.length_replicate] at hi
        have e : (List.replicate k (Value.slice none 0 0))[i]! = .slice none 0 0 := by simp [hi]
        simp only at h3
        rw [e] at h3
        simp [Value.ownBlock] at h3
      · rintro j (rfl | rfl | ⟨v, hv, hk⟩)
        · omega
        · show w.heap.size ≤ j
          omega
        · rw [List.mem_replicate] at hv
          rw [hv.2] at hk
          simp [Value.ownBlock] at hk
end Go.Proofs.Ytpobpijjpbggoaa
