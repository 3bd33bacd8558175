/- package query: Eval. -/
import Derived.Test.YtpobpijjpbggoaaQuery5
import Derived.Test.YtpobpijjpbggoaaMRows4
import Derived.Test.YtpobpijjpbggoaaEvalFns
set_option linter.unusedSimpArgs false
set_option linter.unusedVariables false
namespace Go.Proofs.Ytpobpijjpbggoaa
open Go.RowKit Go.Ten Go.Ten.Qy Go.Ten.Mg

/-- Eval's stack: an own row of slices, the top the last; each is an own row of integers elsewhere, strictly rising, out of u. -/
structure EvSt (u : List Int) (w : World) (B : Nat) (pg : Option Addr) (N cg : Nat) (E : List (Value × List Int)) : Prop where
  row : w.ownsRow B 64 1 (.slice pg N cg) N ((E.map Prod.fst).reverse)
  len : E.length = N
  els : ∀ e ∈ E, w.ownsRow B 3 1 e.1 e.2.length (ints e.2) ∧ e.2.Pairwise (· < ·) ∧ (∀ x ∈ e.2, x ∈ u) ∧ ∀ k, e.1.ownBlock = some k → some k ≠ (Value.slice pg N cg).ownBlock

theorem EvSt.grew {u : List Int} {w w' : World} {B : Nat} {pg : Option Addr} {N cg : Nat} {E : List (Value × List Int)} (h : EvSt u w B pg N cg E) (hb : Below w.heap.size w w') : EvSt u w' B pg N cg E :=
  ⟨owns_grew hb h.row, h.len, fun e he => by
    obtain ⟨h1, h2, h3, h4⟩ := h.els e he
    exact ⟨owns_grew hb h1, h2, h3, h4⟩⟩

theorem evalStep_len {u : List Int} {p : Part} {st sets : List (List Int)} (h0 : ¬ takesQ p < 0) (h1 : ¬ (st.length : Int) < takesQ p) : ((evalStep u p st sets).length : Int) = st.length + (1 - takesQ p) := by
  rcases step_cases h0 h1 with ⟨hk, ht⟩ | ⟨hk, ht, hs⟩ | ⟨hk, ht, hs⟩
  · simp [evalStep, takesQ, hk, ht]
  · rcases st with _ | ⟨x, r⟩
    · simp at hs
    · simp [evalStep, takesQ, hk, ht]
  · rcases st with _ | ⟨y, _ | ⟨x, r⟩⟩
    · simp at hs
    · simp at hs
    · rcases hk with hk | hk <;> simp [evalStep, takesQ, hk, ht] <;> omega

/-- A strictly rising list out of another is no longer. -/
theorem sub_len {u xs : List Int} (hu : u.Pairwise (· < ·)) (hx : xs.Pairwise (· < ·)) (h : ∀ x ∈ xs, x ∈ u) : xs.length ≤ u.length := by
  have e : xs = u.filter (fun x => xs.contains x) := rise_ext hx (hu.filter _) fun x => by
    simp
    exact fun hh => h x hh
  rw [e]
  exact List.length_filter_le _ _

theorem EvSt.reads {u : List Int} {w : World} {B : Nat} {pg : Option Addr} {N cg : Nat} {E : List (Value × List Int)} (h : EvSt u w B pg N cg E) (hu : u.Pairwise (· < ·)) (hul : u.length ≤ 65535) {e : Value × List Int} (he : e ∈ E) : IntsR w e.1 e.2 := by
  obtain ⟨h1, h2, h3, _⟩ := h.els e he
  have := sub_len hu h2 h3
  obtain ⟨p, c, hv, _, _⟩ := own_form h1
  rw [hv] at h1 ⊢
  exact IntsR.of_owns h1 (by omega)

/-- One more on the stack, behind an append. -/
theorem EvSt.push {u : List Int} {w w' : World} {B : Nat} {pg : Option Addr} {N cg : Nat} {E : List (Value × List Int)} (h : EvSt u w B pg N cg E) {v : Value} {xs : List Int} (hv : w.ownsRow B 3 1 v xs.length (ints xs)) (hx : xs.Pairwise (· < ·)) (hs : ∀ x ∈ xs, x ∈ u)
    (hne : ∀ k, v.ownBlock = some k → some k ≠ (Value.slice pg N cg).ownBlock) {g c' : Nat} (hr : w'.ownsRow B 64 1 (.slice (some ⟨g, 0, none⟩) (N + 1) c') (N + 1) ((E.map Prod.fst).reverse ++ [v])) (hu : Upd (fun k => some k = (Value.slice pg N cg).ownBlock) w w')
    (hg : pg = some ⟨g, 0, none⟩ ∨ g = w.heap.size) : EvSt u w' B (some ⟨g, 0, none⟩) (N + 1) c' ((v, xs) :: E) := by
  refine ⟨by simpa using hr, by simp [h.len], fun e he => ?_⟩
  have hall : w.ownsRow B 3 1 e.1 e.2.length (ints e.2) ∧ e.2.Pairwise (· < ·) ∧ (∀ x ∈ e.2, x ∈ u) ∧ ∀ k, e.1.ownBlock = some k → some k ≠ (Value.slice pg N cg).ownBlock := by
    rcases List.mem_cons.1 he with rfl | he
    · exact ⟨hv, hx, hs, hne⟩
    · exact h.els e he
  obtain ⟨h1, h2, h3, h4⟩ := hall
  refine ⟨hu.owns h1 fun k hk e => h4 k hk e, h2, h3, fun k hk => ?_⟩
  have hlt := (h1.lt k hk).2
  rcases hg with rfl | rfl
  · have := h4 k hk
    simpa [Value.ownBlock] using this
  · simp [Value.ownBlock]; omega

/-- The two on top are taken off. -/
theorem EvSt.drop2 {u : List Int} {w : World} {B g N cg : Nat} {x y : Value × List Int} {E : List (Value × List Int)} (h : EvSt u w B (some ⟨g, 0, none⟩) (N + 2) cg (y :: x :: E)) : EvSt u w B (some ⟨g, 0, none⟩) N cg E := by
  have hl := h.len
  have h1 := owns_take h.row (m := N) (by omega)
  have e : (((y :: x :: E).map Prod.fst).reverse).take N = (E.map Prod.fst).reverse := by
    have : N = (E.map Prod.fst).reverse.length := by simp at hl ⊢; omega
    rw [this]
    simp
  rw [e] at h1
  refine ⟨h1, by simp at hl; omega, fun e he => ?_⟩
  obtain ⟨k1, k2, k3, k4⟩ := h.els e (List.mem_cons_of_mem _ (List.mem_cons_of_mem _ he))
  exact ⟨k1, k2, k3, by simpa [Value.ownBlock] using k4⟩

/-- The top is another one. -/
theorem EvSt.set {u : List Int} {w : World} {B g N cg : Nat} {x : Value × List Int} {E : List (Value × List Int)} (h : EvSt u w B (some ⟨g, 0, none⟩) (N + 1) cg (x :: E)) {v : Value} {xs : List Int} (hv : w.ownsRow B 3 1 v xs.length (ints xs)) (hx : xs.Pairwise (· < ·)) (hs : ∀ x ∈ xs, x ∈ u)
    (hne : ∀ k, v.ownBlock = some k → k ≠ g) : EvSt u (w.setCell ⟨g, N, none⟩ v) B (some ⟨g, 0, none⟩) (N + 1) cg ((v, xs) :: E) := by
  have hl := h.len
  refine ⟨?_, by simpa using hl, fun e he => ?_⟩
  · have := (h.row.stored N v).1
    have e : (((x :: E).map Prod.fst).reverse).set N v = (((v, xs) :: E).map Prod.fst).reverse := by
      have e4 : N = (E.map Prod.fst).reverse.length := by simp at hl ⊢; omega
      simp only [List.map_cons, List.reverse_cons]
      rw [List.set_append_right _ _ (by omega), e4]
      simp
    rw [e] at this
    exact this
  · have hall : w.ownsRow B 3 1 e.1 e.2.length (ints e.2) ∧ e.2.Pairwise (· < ·) ∧ (∀ x ∈ e.2, x ∈ u) ∧ ∀ k, e.1.ownBlock = some k → k ≠ g := by
      rcases List.mem_cons.1 he with rfl | he
      · exact ⟨hv, hx, hs, hne⟩
      · obtain ⟨k1, k2, k3, k4⟩ := h.els e (List.mem_cons_of_mem _ he)
        exact ⟨k1, k2, k3, fun k hk => by simpa [Value.ownBlock] using k4 k hk⟩
    obtain ⟨k1, k2, k3, k4⟩ := hall
    refine ⟨ownsRow_setCell_off k1 (fun e => k4 _ e rfl) _, k2, k3, fun k hk => ?_⟩
    have := k4 k hk
    simpa [Value.ownBlock] using this

/-- Lists behind a slice that holds no more than its room. -/
def LsC (w : World) (v : Value) (ls : List (List Int)) : Prop := LsR w v ls ∧ ∃ p c, v = .slice p ls.length c ∧ ls.length ≤ c
theorem LsR.grew {w w' : World} {v : Value} {ls : List (List Int)} (h : LsR w v ls) (hb : Below w.heap.size w w') : LsR w' v ls := by
  obtain ⟨p, c, rfl, hc⟩ := h
  refine ⟨p, c, rfl, fun i hi => ?_⟩
  obtain ⟨blk, off, vi, h1, h2, h3⟩ := hc i hi
  exact ⟨blk, off, vi, h1, cell_grew hb h2, h3.grew hb⟩
theorem LsC.grew {w w' : World} {v : Value} {ls : List (List Int)} (h : LsC w v ls) (hb : Below w.heap.size w w') : LsC w' v ls := ⟨h.1.grew hb, h.2⟩

theorem info_ints : (Try.prog.info? 64).map (fun i => (i.zero.map (fun z => z.cells.size), i.size, i.bytes)) = some (some 1, 1, 24) := by kernel_rfl

set_option maxRecDepth 100000 in
set_option maxHeartbeats 2000000 in
theorem eval_calls (v vs va : Value) (q : List Part) (sets : List (List Int)) (all : List Int) (w : World) (h : PartsAt w v q) (hs : LsC w vs sets) (ha : IntsR w va all) (hal : all.length ≤ 65535) :
    Calls Try.prog 29 #[v, vs, va] w (NewInts w (eval q sets all)) := by
  have hrc := right_calls _ q w h
  unfold NewInts
  by_cases hr : rightQ q = true
  · have hq64 : q.length ≤ 64 ∧ depthOf q 0 = some 1 := by rw [rightQ] at hr; simpa [and_comm] using hr
    have ht : eval q sets all = (evalGo (setL all) q [] sets).headD [] := by rw [eval, if_pos hr]
    rw [hr] at hrc
    rw [ht]
    clear ht hr
    have h0 := h
    obtain ⟨p, c, rfl, hql, htl, hc⟩ := h0
    replace hql : q.length ≤ 64 := hq64.1
    have ha0 := ha
    obtain ⟨pa, ca, rfl, _, _⟩ := ha0
    have hs0 := hs
    obtain ⟨_, ps, cs, rfl, hcs⟩ := hs0
    go_enter Try.func29, Try.ntmps29
    go_wp2_with fail
    refine hrc.mono ?_
    rintro e w1 ⟨rfl, hb1⟩
    clear hrc
    have hset := set_calls _ all w1 (ha.grew hb1)
    unfold NewInts at hset
    go_wp2_with fail
    refine hset.mono ?_
    rintro e w2 ⟨pu, cu, rfl, hou, hb2⟩
    have hsz1 := hb1.size
    have hsz2 := hb2.size
    have hu : (setL all).Pairwise (· < ·) := set_sorted all
    have hul : (setL all).length ≤ 65535 := by
      have e : setL all = rising (all.mergeSort fun x y => decide (x ≤ y)) := set_eq all
      have h1 := rising_len (all.mergeSort fun x y => decide (x ≤ y))
      rw [List.length_mergeSort] at h1
      rw [e]
      omega
    have eu : setOf all = setL all := rfl
    rw [eu] at hou
    obtain ⟨U, hU⟩ : ∃ U, setL all = U := ⟨_, rfl⟩
    rw [hU] at hou hu hul
    rw [eu, hU]
    replace hU := Lib.hid hU
    clear hset eu ha
    go_wp2_with fail
    go_loopw [1, 8, 20] (fun vq vl vi wr => ∃ (k N : Nat) (E : List (Value × List Int)) (S : List (List Int)) (pg : Option Addr) (cg : Nat), vi = .int .i64 k ∧ k ≤ q.length ∧ LsC w vq S ∧ vl = .slice pg N cg ∧ EvSt U wr w2.heap.size pg N cg E ∧
      Below w2.heap.size w2 wr ∧ depthOf (q.drop k) N = some 1 ∧ evalGo U (q.drop k) (E.map Prod.snd) S = evalGo U q [] sets ∧ N ≤ k) (fun _ _ v _ => q.length - (intOf v).toNat)
    case atStart => exact ⟨0, 0, [], sets, none, 0, rfl, by omega, hs, rfl, ⟨World.ownsRow_nil _ _ _ _, rfl, by simp⟩, Below.refl _ _, hq64.2, rfl, by omega⟩
    case round =>
      obtain ⟨k, N, E, S, pg, cg, rfl, hk, hS, rfl, hE, hbw, hd, hgo, hNk⟩ := hrel
      have hszw := hbw.size
      have hbW : Below w.heap.size w wr := (hb1.trans (hb2.mono hsz1)).trans (hbw.mono (by omega))
      by_cases hlt : k < q.length
      · obtain ⟨blk, off, rfl, h1, h2⟩ := hc k hlt
        have hdrop : q.drop k = q[k] :: q.drop (k + 1) := List.drop_eq_getElem_cons hlt
        rw [hdrop] at hd hgo
        generalize q[k] = x at *
        have g1 : wr.cell? ⟨blk, off + k * 2, none⟩ = some (.int .i64 x.kind) := cell_grew hbW h1
        have g2 : wr.cell? ⟨blk, off + k * 2 + 1, none⟩ = some (.string ⟨x.term.toArray⟩) := cell_grew hbW h2
        have hcast : (k : Int) < (q.length : Int) := by omega
        obtain ⟨hn0, hn1, hdn⟩ := depth_head hd
        have hel := hE.len
        have hlen := evalStep_len (u := U) (p := x) (st := E.map Prod.snd) (sets := S) hn0 (by simpa [hel] using hn1)
        rw [List.length_map, hel] at hlen
        rw [← hlen] at hdn
        rw [evalGo] at hgo
        replace hdn := Lib.hid hdn
        replace hgo := Lib.hid hgo
        replace hel := Lib.hid hel
        replace hd := Lib.hid hd
        clear hc hlen hdrop hq64 h
        obtain ⟨xk, xt⟩ := x
        have hru : IntsR wr (.slice pu U.length cu) U := (IntsR.of_owns hou (by omega)).grew (hbw)
        rcases step_cases hn0 hn1 with ⟨hk1, hterm⟩ | ⟨hk4, hterm, hst⟩ | ⟨hk23, hterm, hst⟩
        · simp only at hk1 hterm
          subst hk1
          clear hn0 hn1
          rcases S with _ | ⟨s0, S⟩
          · have hS' := hS
            have hsl : ∀ e3 : List Int, e3 = setL [] → e3.length ≤ 4294967296 := fun e3 h => by subst h; decide +kernel
            have hEk : ∀ k, (Value.slice pg N cg).ownBlock = some k → k < wr.heap.size := fun k hk => (hE.row.lt k hk).2
            obtain ⟨⟨p0, c0, rfl, _⟩, p1, c1, e1, _⟩ := hS
            simp only [Value.slice.injEq] at e1
            obtain ⟨rfl, _, rfl⟩ := e1
            have hset := set_calls (.slice none 0 0) [] (wr.alloc (.cells #[.int .i64 1, .string ⟨xt.toArray⟩] 57)) ⟨none, 0, rfl, ⟨⟨by simp, by simp⟩, by simp⟩, by simp⟩
            unfold NewInts at hset
            go_wp2_with fail
            refine hset.mono ?_
            rintro e w3 ⟨p3, c3, rfl, ho3, hb3⟩
            clear hset
            obtain ⟨e3, hw3⟩ : ∃ L : List Int, L = setL [] := ⟨_, rfl⟩
            have eL : setOf [] = e3 := hw3.symm
            rw [eL] at ho3 ⊢
            have hb3' : Below wr.heap.size wr w3 := ((Below.refl _ wr).alloc (Nat.le_refl _) _).trans (hb3.mono (by simp))
            have hsz3 := hb3'.size
            have hl3 : e3.length ≤ 4294967296 := hsl e3 hw3
            have hinter := inter_calls w3.heap.size 0 2 _ _ U e3 (w3.alloc (.cells #[.slice pu U.length cu, .slice p3 e3.length c3] 64)) (by simp) (by simp) (by omega) ((hru.grew hb3').grew ((Below.refl _ _).alloc (Nat.le_refl _) _)) ((IntsR.of_owns ho3 hl3).grew ((Below.refl _ _).alloc (Nat.le_refl _) _))
            unfold NewInts at hinter
            have hgo' := hgo.out
            have hdn' := hdn.out
            have es : evalStep U ⟨1, xt⟩ (E.map Prod.snd) [] = inter U e3 :: E.map Prod.snd := by rw [hw3]; simp [evalStep, setL]
            rw [es] at hgo' hdn'
            replace hgo' := Lib.hid hgo'
            replace hdn' := Lib.hid hdn'
            clear hgo hdn es hru eL
            replace hw3 := Lib.hid hw3
            have hu0 := rising_id hu
            go_wp2_with fail
            refine hinter.mono ?_
            rintro e w4 ⟨p4, c4, rfl, ho4, hb4⟩
            have hb4' : Below wr.heap.size wr w4 := (hb3'.alloc hsz3 _).trans (hb4.mono (by simp; omega))
            have hsz4 := hb4'.size
            have hsz43 := hb4.size
            clear hinter
            have hE4 := hE.grew hb4'
            have hrs : (inter U e3).Pairwise (· < ·) := inter_sorted U e3
            have hsub : ∀ x ∈ inter U e3, x ∈ U := fun x hx => by
              have := (mem_both.1 hx).1
              rwa [hu0] at this
            generalize inter U e3 = R at *
            clear hE hu0
            go_wp2_with (refine wpl_appendk _ (.tmp 38) (.tmp 44) 63 64 rfl rfl 1 24 Try.underlying63 info_ints (by decide) (by decide) pg N cg ((E.map Prod.fst).reverse) w2.heap.size _ [.slice p4 R.length c4] rfl rfl rfl ?h1 ?h2 ?h3 ?h4 ?h4b ?h5)
            case h1 => exact hE4.row.alloc _
            case h2 => simp; omega
            case h3 => exact one_new w4 (.slice p4 R.length c4) 64
            case h4 => intro u hu; simp at hu; subst hu; rfl
            case h4b => omega
            case h5 =>
              intro g c' w5 hown hupd hg
              have hE4a := hE4.grew (w' := w4.alloc (.cells #[.slice p4 R.length c4] 64)) ((Below.refl _ _).alloc (Nat.le_refl _) _)
              have hE5 := hE4a.push (v := .slice p4 R.length c4) (xs := R) ((owns_base ho4 (by simp; omega)).alloc _) hrs hsub (fun k hk e => by
                have k1 := own_ge ho4 hk
                have k2 := (hE4.row.lt k e.symm).2
                simp at k1
                exact absurd (hEk k e.symm) (by omega)) hown hupd (by simpa using hg)
              go_wp2_with fail
              go_roundw
              case rel =>
                refine ⟨k + 1, N + 1, (.slice p4 R.length c4, R) :: E, [], some ⟨g, 0, none⟩, c', by simp, by omega, hS', by first | rfl | simp, hE5, ?_, ?_, ?_, by omega⟩
                · exact hbw.trans ((hupd.below_own (hE4.row.alloc _) (by simp; omega) ((hb4'.mono hszw).alloc (by omega) _)))
                · have := hdn'.out; simpa [hel.out] using this
                · have := hgo'.out; simpa using this
              case measure => simp [intOf]; omega
          · have hS0 := hS
            obtain ⟨⟨p0, c0, rfl, hcS⟩, p1, c1, e1, hcap⟩ := hS
            simp only [Value.slice.injEq] at e1
            obtain ⟨rfl, _, rfl⟩ := e1
            obtain ⟨blk0, off0, vi, rfl, hv0, hv1⟩ := hcS 0 (by simp)
            have hsl : ∀ e3 : List Int, e3 = setL s0 → e3.length ≤ 4294967296 := fun e3 h => by
              subst h
              have e : setL s0 = rising (s0.mergeSort fun x y => decide (x ≤ y)) := set_eq s0
              have h1 := rising_len (s0.mergeSort fun x y => decide (x ≤ y))
              rw [List.length_mergeSort] at h1
              have := hv1.len
              simp at this
              rw [e]
              omega
            have hEk : ∀ k, (Value.slice pg N cg).ownBlock = some k → k < wr.heap.size := fun k hk => (hE.row.lt k hk).2
            obtain ⟨M, hM⟩ : ∃ M, S.length = M := ⟨_, rfl⟩
            have eM : (s0 :: S).length = M + 1 := by rw [← hM]; rfl
            rw [eM] at hcap ⊢
            have hS' : LsC w (if c0 = 1 then .slice (some ⟨blk0, off0, none⟩) 0 0 else .slice (some ⟨blk0, off0 + 1, none⟩) M (c0 - 1)) S := by
              by_cases hc1 : c0 = 1
              · have hS0 : S = [] := List.eq_nil_of_length_eq_zero (by omega)
                subst hS0
                rw [if_pos hc1]
                exact ⟨⟨some ⟨blk0, off0, none⟩, 0, rfl, fun i hi => by simp at hi⟩, some ⟨blk0, off0, none⟩, 0, rfl, by simp⟩
              · rw [if_neg hc1]
                refine ⟨⟨some ⟨blk0, off0 + 1, none⟩, c0 - 1, by rw [hM], fun i hi => ?_⟩, some ⟨blk0, off0 + 1, none⟩, c0 - 1, by rw [hM], by omega⟩
                obtain ⟨blk1, off1, vi1, e, h3, h4⟩ := hcS (i + 1) (by simp; omega)
                simp only [Option.some.injEq, Addr.mk.injEq] at e
                obtain ⟨rfl, rfl, _⟩ := e
                exact ⟨blk0, off0 + 1, vi1, rfl, by rw [← h3]; congr 2; omega, h4⟩
            rw [Nat.add_zero] at hv0
            have gv0 := cell_grew hbW hv0
            have hv1' : IntsR wr vi s0 := hv1.grew hbW
            obtain ⟨pv, cv, rfl, _, _⟩ := id hv1
            have gv1 : ((wr.alloc (.cells #[.int .i64 1, .string ⟨xt.toArray⟩] 57)).drew).cell? ⟨blk0, off0, none⟩ = some (.slice pv s0.length cv) := cell_grew (((Below.refl _ _).alloc (Nat.le_refl _) _).drew) gv0
            have hset := set_calls _ s0 ((wr.alloc (.cells #[.int .i64 1, .string ⟨xt.toArray⟩] 57)).drew) (hv1'.grew (((Below.refl _ _).alloc (Nat.le_refl _) _).drew))
            unfold NewInts at hset
            have hMp : (0 : Int) < (M : Int) + 1 := by omega
            replace hM := Lib.hid hM
            replace eM := Lib.hid eM
            replace hS' := Lib.hid hS'
            clear hcS hv1 hv1' hS0
            by_cases hc1 : c0 = 1
            · have hS'' := hS'.out
              rw [if_pos hc1] at hS''
              subst hc1
              obtain rfl : M = 0 := by omega
              replace hS'' := Lib.hid hS''
              go_wp2_with fail
              refine undraw ?hB ?_
              case hB => kernel_rfl
              intro K hK
              simp only [Undraw.withAsks, Undraw.asksOf, Undraw.intsOf, Undraw.strsOf, List.contains, List.elem, Nat.reduceBEq, if_true, List.map_nil, List.map_cons, List.nil_append, List.append_nil, List.cons_append]
              go_wp2_with fail
              refine hset.mono ?_
              rintro e w3 ⟨p3, c3, rfl, ho3, hb3⟩
              clear hset
              obtain ⟨e3, hw3⟩ : ∃ L : List Int, L = setL s0 := ⟨_, rfl⟩
              have eL : setOf s0 = e3 := hw3.symm
              rw [eL] at ho3 ⊢
              have hb3' : Below wr.heap.size wr w3 := (((Below.refl _ wr).alloc (Nat.le_refl _) _).drew).trans (hb3.mono (by simp))
              have hsz3 := hb3'.size
              have hl3 : e3.length ≤ 4294967296 := hsl e3 hw3
              have hinter := inter_calls w3.heap.size 0 2 _ _ U e3 (w3.alloc (.cells #[.slice pu U.length cu, .slice p3 e3.length c3] 64)) (by simp) (by simp) (by omega) ((hru.grew hb3').grew ((Below.refl _ _).alloc (Nat.le_refl _) _)) ((IntsR.of_owns ho3 hl3).grew ((Below.refl _ _).alloc (Nat.le_refl _) _))
              unfold NewInts at hinter
              have hgo' := hgo.out
              have hdn' := hdn.out
              have es : evalStep U ⟨1, xt⟩ (E.map Prod.snd) (s0 :: S) = inter U e3 :: E.map Prod.snd := by rw [hw3]; simp [evalStep, setL]
              rw [es] at hgo' hdn'
              replace hgo' := Lib.hid hgo'
              replace hdn' := Lib.hid hdn'
              clear hgo hdn es hru eL
              replace hw3 := Lib.hid hw3
              have hu0 := rising_id hu
              go_wp2_with fail
              refine hinter.mono ?_
              rintro e w4 ⟨p4, c4, rfl, ho4, hb4⟩
              have hb4' : Below wr.heap.size wr w4 := (hb3'.alloc hsz3 _).trans (hb4.mono (by simp; omega))
              have hsz4 := hb4'.size
              have hsz43 := hb4.size
              clear hinter
              have hE4 := hE.grew hb4'
              have hrs : (inter U e3).Pairwise (· < ·) := inter_sorted U e3
              have hsub : ∀ x ∈ inter U e3, x ∈ U := fun x hx => by
                have := (mem_both.1 hx).1
                rwa [hu0] at this
              generalize inter U e3 = R at *
              clear hE hu0
              go_wp2_with (refine wpl_appendk _ (.tmp 38) (.tmp 44) 63 64 rfl rfl 1 24 Try.underlying63 info_ints (by decide) (by decide) pg N cg ((E.map Prod.fst).reverse) w2.heap.size _ [.slice p4 R.length c4] rfl rfl rfl ?h1 ?h2 ?h3 ?h4 ?h4b ?h5)
              case h1 => exact hE4.row.alloc _
              case h2 => simp; omega
              case h3 => exact one_new w4 (.slice p4 R.length c4) 64
              case h4 => intro u hu; simp at hu; subst hu; rfl
              case h4b => omega
              case h5 =>
                intro g c' w5 hown hupd hg
                have hE4a := hE4.grew (w' := w4.alloc (.cells #[.slice p4 R.length c4] 64)) ((Below.refl _ _).alloc (Nat.le_refl _) _)
                have hE5 := hE4a.push (v := .slice p4 R.length c4) (xs := R) ((owns_base ho4 (by simp; omega)).alloc _) hrs hsub (fun k hk e => by
                  have k1 := own_ge ho4 hk
                  have k2 := (hE4.row.lt k e.symm).2
                  simp at k1
                  exact absurd (hEk k e.symm) (by omega)) hown hupd (by simpa using hg)
                go_wp2_with fail
                go_roundw
                case rel =>
                  refine ⟨k + 1, N + 1, (.slice p4 R.length c4, R) :: E, S, some ⟨g, 0, none⟩, c', by simp, by omega, hS''.out, by first | rfl | simp, hE5, ?_, ?_, ?_, by omega⟩
                  · exact hbw.trans ((hupd.below_own (hE4.row.alloc _) (by simp; omega) ((hb4'.mono hszw).alloc (by omega) _)))
                  · have := hdn'.out; simpa [hel.out] using this
                  · have := hgo'.out; simpa using this
                case measure => simp [intOf]; omega
            · have hS'' := hS'.out
              rw [if_neg hc1] at hS''
              replace hS'' := Lib.hid hS''
              have hc2 : 1 < c0 := by omega
              go_wp2_with fail
              refine undraw ?hB ?_
              case hB => kernel_rfl
              intro K hK
              simp only [Undraw.withAsks, Undraw.asksOf, Undraw.intsOf, Undraw.strsOf, List.contains, List.elem, Nat.reduceBEq, if_true, List.map_nil, List.map_cons, List.nil_append, List.append_nil, List.cons_append]
              go_wp2_with fail
              refine hset.mono ?_
              rintro e w3 ⟨p3, c3, rfl, ho3, hb3⟩
              clear hset
              obtain ⟨e3, hw3⟩ : ∃ L : List Int, L = setL s0 := ⟨_, rfl⟩
              have eL : setOf s0 = e3 := hw3.symm
              rw [eL] at ho3 ⊢
              have hb3' : Below wr.heap.size wr w3 := (((Below.refl _ wr).alloc (Nat.le_refl _) _).drew).trans (hb3.mono (by simp))
              have hsz3 := hb3'.size
              have hl3 : e3.length ≤ 4294967296 := hsl e3 hw3
              have hinter := inter_calls w3.heap.size 0 2 _ _ U e3 (w3.alloc (.cells #[.slice pu U.length cu, .slice p3 e3.length c3] 64)) (by simp) (by simp) (by omega) ((hru.grew hb3').grew ((Below.refl _ _).alloc (Nat.le_refl _) _)) ((IntsR.of_owns ho3 hl3).grew ((Below.refl _ _).alloc (Nat.le_refl _) _))
              unfold NewInts at hinter
              have hgo' := hgo.out
              have hdn' := hdn.out
              have es : evalStep U ⟨1, xt⟩ (E.map Prod.snd) (s0 :: S) = inter U e3 :: E.map Prod.snd := by rw [hw3]; simp [evalStep, setL]
              rw [es] at hgo' hdn'
              replace hgo' := Lib.hid hgo'
              replace hdn' := Lib.hid hdn'
              clear hgo hdn es hru eL
              replace hw3 := Lib.hid hw3
              have hu0 := rising_id hu
              go_wp2_with fail
              refine hinter.mono ?_
              rintro e w4 ⟨p4, c4, rfl, ho4, hb4⟩
              have hb4' : Below wr.heap.size wr w4 := (hb3'.alloc hsz3 _).trans (hb4.mono (by simp; omega))
              have hsz4 := hb4'.size
              have hsz43 := hb4.size
              clear hinter
              have hE4 := hE.grew hb4'
              have hrs : (inter U e3).Pairwise (· < ·) := inter_sorted U e3
              have hsub : ∀ x ∈ inter U e3, x ∈ U := fun x hx => by
                have := (mem_both.1 hx).1
                rwa [hu0] at this
              generalize inter U e3 = R at *
              clear hE hu0
              go_wp2_with (refine wpl_appendk _ (.tmp 38) (.tmp 44) 63 64 rfl rfl 1 24 Try.underlying63 info_ints (by decide) (by decide) pg N cg ((E.map Prod.fst).reverse) w2.heap.size _ [.slice p4 R.length c4] rfl rfl rfl ?h1 ?h2 ?h3 ?h4 ?h4b ?h5)
              case h1 => exact hE4.row.alloc _
              case h2 => simp; omega
              case h3 => exact one_new w4 (.slice p4 R.length c4) 64
              case h4 => intro u hu; simp at hu; subst hu; rfl
              case h4b => omega
              case h5 =>
                intro g c' w5 hown hupd hg
                have hE4a := hE4.grew (w' := w4.alloc (.cells #[.slice p4 R.length c4] 64)) ((Below.refl _ _).alloc (Nat.le_refl _) _)
                have hE5 := hE4a.push (v := .slice p4 R.length c4) (xs := R) ((owns_base ho4 (by simp; omega)).alloc _) hrs hsub (fun k hk e => by
                  have k1 := own_ge ho4 hk
                  have k2 := (hE4.row.lt k e.symm).2
                  simp at k1
                  exact absurd (hEk k e.symm) (by omega)) hown hupd (by simpa using hg)
                go_wp2_with fail
                go_roundw
                case rel =>
                  refine ⟨k + 1, N + 1, (.slice p4 R.length c4, R) :: E, S, some ⟨g, 0, none⟩, c', by simp, by omega, hS''.out, by first | rfl | simp, hE5, ?_, ?_, ?_, by omega⟩
                  · exact hbw.trans ((hupd.below_own (hE4.row.alloc _) (by simp; omega) ((hb4'.mono hszw).alloc (by omega) _)))
                  · have := hdn'.out; simpa [hel.out] using this
                  · have := hgo'.out; simpa using this
                case measure => simp [intOf]; omega
        · simp only at hk4 hterm
          subst hk4 hterm
          clear hn0 hn1
          rcases E with _ | ⟨⟨v0, x0⟩, E⟩
          · have := hel.out; simp at this; omega
          obtain ⟨n, rfl⟩ : ∃ n, N = n + 1 := ⟨N - 1, by omega⟩
          obtain ⟨pg', cg', hv, hp0, hp1⟩ := own_form hE.row
          simp only [Value.slice.injEq] at hv
          obtain ⟨rfl, _, rfl⟩ := hv
          rcases pg with _ | ag
          · have := hp0 rfl; simp at this
          have eg := hp1 ag rfl
          generalize ag.block = g at eg
          subst eg
          have hgo' := hgo.out
          have hdn' := hdn.out
          have es : evalStep U ⟨4, []⟩ (((v0, x0) :: E).map Prod.snd) S = minus U x0 :: E.map Prod.snd := by simp [evalStep]
          rw [es] at hgo' hdn'
          replace hgo' := Lib.hid hgo'
          replace hdn' := Lib.hid hdn'
          clear hgo hdn es hp0 hp1
          have hr0 : IntsR wr v0 x0 := hE.reads hu hul (List.mem_cons_self ..)
          obtain ⟨p0, c0, rfl, _, _⟩ := id hr0
          have hel' : E.length = n := by have := hel.out; simpa using this
          have hcell : wr.cell? ⟨g, n, none⟩ = some (.slice p0 x0.length c0) := by
            rw [hE.row.cellAt n (by omega)]
            simp [← hel']
          have hcellA : (wr.alloc (.cells #[.int .i64 4, .string ⟨#[]⟩] 57)).cell? ⟨g, n, none⟩ = some (.slice p0 x0.length c0) := cell_grew ((Below.refl _ _).alloc (Nat.le_refl _) _) hcell
          have hfr := hE.row.frozenAt n
          have hglt := (hE.row.lt g rfl).2
          have hgge := (hE.row.lt g rfl).1
          have hal1 : Below wr.heap.size wr (wr.alloc (.cells #[.int .i64 4, .string ⟨#[]⟩] 57)) := (Below.refl _ _).alloc (Nat.le_refl _) _
          have hmin := minus_calls _ _ U x0 (wr.alloc (.cells #[.int .i64 4, .string ⟨#[]⟩] 57)) (hru.grew hal1) (hr0.grew hal1)
          unfold NewInts at hmin
          have hrs : (minus U x0).Pairwise (· < ·) := minus_sorted U x0
          have hu0 := rising_id hu
          have hsub : ∀ x ∈ minus U x0, x ∈ U := fun x hx => by
            have := (mem_both.1 hx).1
            rwa [hu0] at this
          generalize minus U x0 = R at *
          replace hel' := Lib.hid hel'
          clear hu0 hru hr0
          go_wp2_with fail
          refine hmin.mono ?_
          rintro e w3 ⟨p3, c3, rfl, ho3, hb3⟩
          clear hmin
          have hb3' : Below wr.heap.size wr w3 := hal1.trans (hb3.mono (by simp))
          have hE3 := hE.grew hb3'
          have hfr3 := hE3.row.frozenAt n
          have hcell3 : w3.cell? ⟨g, n, none⟩ = some (.slice p0 x0.length c0) := cell_grew hb3' hcell
          have hsz3 := hb3'.size
          have hset := hE3.set (v := .slice p3 R.length c3) (xs := R) (owns_base ho3 (by simp; omega)) hrs hsub (fun k hk e => by
            have k1 := own_ge ho3 hk
            simp at k1
            omega)
          clear hcell hcellA hE hE3 hfr
          go_wp2_with fail
          go_roundw
          case rel =>
            refine ⟨k + 1, n + 1, (.slice p3 R.length c3, R) :: E, S, some ⟨g, 0, none⟩, cg, by simp, by omega, hS, by first | rfl | simp, hset, ?_, ?_, ?_, by omega⟩
            · exact (hbw.trans (hb3'.mono hszw)).setCell (by simpa using hgge) _
            · have := hdn'.out; simpa [hel'.out] using this
            · have := hgo'.out; simpa using this
          case measure => simp [intOf]; omega
        · simp only at hk23 hterm
          subst hterm
          clear hn0 hn1
          rcases E with _ | ⟨⟨vy, y⟩, _ | ⟨⟨vx, x⟩, E⟩⟩
          · have := hel.out; simp at this; omega
          · have := hel.out; simp at this; omega
          obtain ⟨n, rfl⟩ : ∃ n, N = n + 2 := ⟨N - 2, by omega⟩
          obtain ⟨pg', cg', hv, hp0, hp1⟩ := own_form hE.row
          simp only [Value.slice.injEq] at hv
          obtain ⟨rfl, _, rfl⟩ := hv
          rcases pg with _ | ag
          · have := hp0 rfl; simp at this
          have eg := hp1 ag rfl
          generalize ag.block = g at eg
          subst eg
          clear hp0 hp1
          have hel' : Hid (E.length = n) := Lib.hid (by have := hel.out; simpa using this)
          have hcap : n + 2 ≤ cg := by
            obtain ⟨_, h2 | ⟨g', cap, cur, hv, _, _, hn, _⟩⟩ := hE.row
            · simp at h2
            · simp only [Value.slice.injEq] at hv; omega
          rcases hk23 with rfl | rfl
          · have es : evalStep U ⟨2, []⟩ (((vy, y) :: (vx, x) :: E).map Prod.snd) S = inter x y :: E.map Prod.snd := by simp [evalStep]
            have hgo' := hgo.out
            have hdn' := hdn.out
            rw [es] at hgo' hdn'
            clear hgo hdn es
            have hd2 : (List.map Prod.snd E).length = n := by simpa using hel'.out
            simp only [List.length_cons, hd2] at hdn'
            replace hdn' := Lib.hid hdn'
            have hrx : IntsR wr vx x := hE.reads hu hul (List.mem_cons_of_mem _ (List.mem_cons_self ..))
            have hry : IntsR wr vy y := hE.reads hu hul (List.mem_cons_self ..)
            obtain ⟨px, cx, rfl, _, _⟩ := id hrx
            obtain ⟨py, cy, rfl, _, _⟩ := id hry
            obtain ⟨_, hsx, hxU, _⟩ := hE.els (.slice px x.length cx, x) (List.mem_cons_of_mem _ (List.mem_cons_self ..))
            obtain ⟨_, hsy, hyU, _⟩ := hE.els (.slice py y.length cy, y) (List.mem_cons_self ..)
            have hlx : x.length ≤ U.length := sub_len hu hsx hxU
            have hly : y.length ≤ U.length := sub_len hu hsy hyU
            have hcx : wr.cell? ⟨g, n, none⟩ = some (.slice px x.length cx) := by
              rw [hE.row.cellAt n (by omega)]
              simp [← hel'.out]
            have hcy : wr.cell? ⟨g, n + 1, none⟩ = some (.slice py y.length cy) := by
              rw [hE.row.cellAt (n + 1) (by omega)]
              simp [← hel'.out]
            have hal1 : Below wr.heap.size wr ((wr.alloc (.cells #[.int .i64 2, .string ⟨#[]⟩] 57)).drew) := ((Below.refl _ _).alloc (Nat.le_refl _) _).drew
            have hcxA := cell_grew hal1 hcx
            have hcyA := cell_grew hal1 hcy
            have hal2 : Below wr.heap.size wr (((wr.alloc (.cells #[.int .i64 2, .string ⟨#[]⟩] 57)).alloc (.cells #[.slice px x.length cx, .slice py y.length cy] 64)).drew) := (((Below.refl _ _).alloc (Nat.le_refl _) _).alloc (by simp) _).drew
            have hcall := inter_calls (wr.heap.size + 1) 0 2 _ _ x y (((wr.alloc (.cells #[.int .i64 2, .string ⟨#[]⟩] 57)).alloc (.cells #[.slice px x.length cx, .slice py y.length cy] 64)).drew) (by simp) (by simp) (by omega) (hrx.grew hal2) (hry.grew hal2)
            unfold NewInts at hcall
            have hrs : (inter x y).Pairwise (· < ·) := inter_sorted x y
            have hsub : ∀ z ∈ inter x y, z ∈ U := fun z hz => by
              have := (mem_both.1 hz).1
              rw [rising_id hsx] at this
              exact hxU z this
            generalize inter x y = R at *
            replace hgo' := Lib.hid hgo'
            clear hal1 hru hcx hcy hrx hry
            replace hal2 := Lib.hid hal2
            go_wp2_with fail
            refine undraw ?hB ?_
            case hB => kernel_rfl
            intro K hK
            simp only [Undraw.withAsks, Undraw.asksOf, Undraw.intsOf, Undraw.strsOf, List.contains, List.elem, Nat.reduceBEq, if_true, List.map_nil, List.map_cons, List.nil_append, List.append_nil, List.cons_append]
            go_wp2_with fail
            refine hcall.mono ?_
            rintro e w3 ⟨p3, c3, rfl, ho3, hb3⟩
            clear hcall
            have hb3' : Below wr.heap.size wr w3 := hal2.out.trans (hb3.mono (by simp; omega))
            have hsz3 := hb3'.size
            have hsz3' := hb3.size
            have hE3 := (hE.grew hb3').drop2
            have hglt := (hE.row.lt g rfl).2
            clear hE
            go_wp2_with (refine wpl_appendk _ (.tmp 64) (.tmp 77) 63 64 rfl rfl 1 24 Try.underlying63 info_ints (by decide) (by decide) (some ⟨g, 0, none⟩) n cg ((E.map Prod.fst).reverse) w2.heap.size _ [.slice p3 R.length c3] rfl rfl rfl ?h1 ?h2 ?h3 ?h4 ?h4b ?h5)
            case h1 => exact hE3.row.alloc _
            case h2 => simp; omega
            case h3 => exact one_new w3 (.slice p3 R.length c3) 64
            case h4 => intro u hu; simp at hu; subst hu; rfl
            case h4b => omega
            case h5 =>
              intro g' c' w5 hown hupd hg
              have hE4a := hE3.grew (w' := w3.alloc (.cells #[.slice p3 R.length c3] 64)) ((Below.refl _ _).alloc (Nat.le_refl _) _)
              have hE5 := hE4a.push (v := .slice p3 R.length c3) (xs := R) ((owns_base ho3 (by simp; omega)).alloc _) hrs hsub (fun k hk e => by
                have k1 := own_ge ho3 hk
                simp [Value.ownBlock] at k1 e
                omega) hown hupd (by simpa using hg)
              go_wp2_with fail
              go_roundw
              case rel =>
                refine ⟨k + 1, n + 1, (.slice p3 R.length c3, R) :: E, S, some ⟨g', 0, none⟩, c', by simp, by omega, hS, by first | rfl | simp, hE5, ?_, ?_, ?_, by omega⟩
                · exact hbw.trans ((hupd.below_own (hE3.row.alloc _) (by simp; omega) ((hb3'.mono hszw).alloc (by omega) _)))
                · have := hdn'.out; simpa using this
                · have := hgo'.out; simpa using this
              case measure => simp [intOf]; omega
          · have es : evalStep U ⟨3, []⟩ (((vy, y) :: (vx, x) :: E).map Prod.snd) S = union2 x y :: E.map Prod.snd := by simp [evalStep]
            have hgo' := hgo.out
            have hdn' := hdn.out
            rw [es] at hgo' hdn'
            clear hgo hdn es
            have hd2 : (List.map Prod.snd E).length = n := by simpa using hel'.out
            simp only [List.length_cons, hd2] at hdn'
            replace hdn' := Lib.hid hdn'
            have hrx : IntsR wr vx x := hE.reads hu hul (List.mem_cons_of_mem _ (List.mem_cons_self ..))
            have hry : IntsR wr vy y := hE.reads hu hul (List.mem_cons_self ..)
            obtain ⟨px, cx, rfl, _, _⟩ := id hrx
            obtain ⟨py, cy, rfl, _, _⟩ := id hry
            obtain ⟨_, hsx, hxU, _⟩ := hE.els (.slice px x.length cx, x) (List.mem_cons_of_mem _ (List.mem_cons_self ..))
            obtain ⟨_, hsy, hyU, _⟩ := hE.els (.slice py y.length cy, y) (List.mem_cons_self ..)
            have hlx : x.length ≤ U.length := sub_len hu hsx hxU
            have hly : y.length ≤ U.length := sub_len hu hsy hyU
            have hcx : wr.cell? ⟨g, n, none⟩ = some (.slice px x.length cx) := by
              rw [hE.row.cellAt n (by omega)]
              simp [← hel'.out]
            have hcy : wr.cell? ⟨g, n + 1, none⟩ = some (.slice py y.length cy) := by
              rw [hE.row.cellAt (n + 1) (by omega)]
              simp [← hel'.out]
            have hal1 : Below wr.heap.size wr ((wr.alloc (.cells #[.int .i64 3, .string ⟨#[]⟩] 57)).drew) := ((Below.refl _ _).alloc (Nat.le_refl _) _).drew
            have hcxA := cell_grew hal1 hcx
            have hcyA := cell_grew hal1 hcy
            have hal2 : Below wr.heap.size wr (((wr.alloc (.cells #[.int .i64 3, .string ⟨#[]⟩] 57)).alloc (.cells #[.slice px x.length cx, .slice py y.length cy] 64)).drew) := (((Below.refl _ _).alloc (Nat.le_refl _) _).alloc (by simp) _).drew
            have hcall := union_calls (.slice (some ⟨wr.heap.size + 1, 0, none⟩) 2 2) [x, y] (((wr.alloc (.cells #[.int .i64 3, .string ⟨#[]⟩] 57)).alloc (.cells #[.slice px x.length cx, .slice py y.length cy] 64)).drew) ⟨_, 2, rfl, fun i hi => by
              match i, hi with
              | 0, _ => exact ⟨wr.heap.size + 1, 0, .slice px x.length cx, rfl, by simp, hrx.grew hal2⟩
              | 1, _ => exact ⟨wr.heap.size + 1, 0, .slice py y.length cy, rfl, by simp, hry.grew hal2⟩⟩ (by simp) (by simp; omega)
            unfold NewInts at hcall
            have hrs : (union2 x y).Pairwise (· < ·) := union2_sorted x y
            have hsub : ∀ z ∈ union2 x y, z ∈ U := fun z hz => by
              rcases (mem_union2 x y z).1 hz with h | h
              · exact hxU z h
              · exact hyU z h
            obtain ⟨R0, hR⟩ : ∃ R, union2 x y = R := ⟨_, rfl⟩
            rw [hR] at hgo' hrs hsub
            replace hgo' := Lib.hid hgo'
            clear hal1 hru hcx hcy hrx hry
            replace hal2 := Lib.hid hal2
            go_wp2_with fail
            refine undraw ?hB ?_
            case hB => kernel_rfl
            intro K hK
            simp only [Undraw.withAsks, Undraw.asksOf, Undraw.intsOf, Undraw.strsOf, List.contains, List.elem, Nat.reduceBEq, if_true, List.map_nil, List.map_cons, List.nil_append, List.append_nil, List.cons_append]
            go_wp2_with fail
            refine hcall.mono ?_
            rintro e w3 ⟨R, ⟨p3, c3, rfl, ho3, hb3⟩, hRs, hRm⟩
            obtain rfl : R = R0 := by rw [← hR]; exact union2_eq hsx hsy hRs hRm
            clear hcall
            have hb3' : Below wr.heap.size wr w3 := hal2.out.trans (hb3.mono (by simp; omega))
            have hsz3 := hb3'.size
            have hsz3' := hb3.size
            have hE3 := (hE.grew hb3').drop2
            have hglt := (hE.row.lt g rfl).2
            clear hE
            go_wp2_with (refine wpl_appendk _ (.tmp 84) (.tmp 97) 63 64 rfl rfl 1 24 Try.underlying63 info_ints (by decide) (by decide) (some ⟨g, 0, none⟩) n cg ((E.map Prod.fst).reverse) w2.heap.size _ [.slice p3 R.length c3] rfl rfl rfl ?h1 ?h2 ?h3 ?h4 ?h4b ?h5)
            case h1 => exact hE3.row.alloc _
            case h2 => simp; omega
            case h3 => exact one_new w3 (.slice p3 R.length c3) 64
            case h4 => intro u hu; simp at hu; subst hu; rfl
            case h4b => omega
            case h5 =>
              intro g' c' w5 hown hupd hg
              have hE4a := hE3.grew (w' := w3.alloc (.cells #[.slice p3 R.length c3] 64)) ((Below.refl _ _).alloc (Nat.le_refl _) _)
              have hE5 := hE4a.push (v := .slice p3 R.length c3) (xs := R) ((owns_base ho3 (by simp; omega)).alloc _) hrs hsub (fun k hk e => by
                have k1 := own_ge ho3 hk
                simp [Value.ownBlock] at k1 e
                omega) hown hupd (by simpa using hg)
              go_wp2_with fail
              go_roundw
              case rel =>
                refine ⟨k + 1, n + 1, (.slice p3 R.length c3, R) :: E, S, some ⟨g', 0, none⟩, c', by simp, by omega, hS, by first | rfl | simp, hE5, ?_, ?_, ?_, by omega⟩
                · exact hbw.trans ((hupd.below_own (hE3.row.alloc _) (by simp; omega) ((hb3'.mono hszw).alloc (by omega) _)))
                · have := hdn'.out; simpa using this
                · have := hgo'.out; simpa using this
              case measure => simp [intOf]; omega
      · have hkl : k = q.length := by omega
        subst hkl
        rw [List.drop_length, depthOf] at hd
        rw [List.drop_length, evalGo] at hgo
        have hN1 : N = 1 := by simp at hd; omega
        subst hN1
        have hel := hE.len
        rcases E with _ | ⟨⟨v0, x0⟩, _ | ⟨e1, E⟩⟩
        · simp at hel
        · obtain ⟨pg', cg', hv, hp0, hp1⟩ := own_form hE.row
          simp only [Value.slice.injEq] at hv
          obtain ⟨rfl, _, rfl⟩ := hv
          rcases pg with _ | ag
          · have := hp0 rfl; simp at this
          have eg := hp1 ag rfl
          generalize ag.block = g at eg
          subst eg
          obtain ⟨h1, h2, h3, h4⟩ := hE.els (v0, x0) (List.mem_cons_self ..)
          obtain ⟨p0, c0, hv0, _, _⟩ := own_form h1
          simp only at hv0 h1
          subst hv0
          have hcell : wr.cell? ⟨g, 0, none⟩ = some (.slice p0 x0.length c0) := by
            rw [hE.row.cellAt 0 (by omega)]
            simp
          have hx0 : (evalGo (setL all) q [] sets).headD [] = x0 := by rw [hU.out, ← hgo]; rfl
          replace hx0 := Lib.hid hx0
          clear hd hgo hE hel hp0 hp1 h htl hcs
          go_wp2_with fail
          go_ret
          have hx1 : (evalGo (setL all) q [] sets).head?.getD [] = x0 := by
            have := hx0.out
            rwa [List.headD_eq_head?_getD] at this
          rw [hx1]
          exact ⟨p0, c0, rfl, owns_base h1 (by omega), hbW⟩
        · simp at hel
  · rw [Bool.not_eq_true] at hr
    rw [hr] at hrc
    have ht : eval q sets all = [] := by rw [eval, if_neg (by simp [hr])]
    rw [ht]
    obtain ⟨p, c, rfl, hql, htl, hc⟩ := h
    obtain ⟨pa, ca, rfl, _, _⟩ := ha
    obtain ⟨_, ps, cs, rfl, hcs⟩ := hs
    go_enter Try.func29, Try.ntmps29
    go_wp2_with fail
    refine hrc.mono ?_
    rintro e w1 ⟨rfl, hb1⟩
    go_wp2_with fail
    go_ret
    exact ⟨none, 0, rfl, World.ownsRow_nil _ _ _ _, hb1⟩
end Go.Proofs.Ytpobpijjpbggoaa
