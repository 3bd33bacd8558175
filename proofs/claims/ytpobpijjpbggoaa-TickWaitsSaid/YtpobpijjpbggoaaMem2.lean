/- package mem: slots. -/
import Derived.Test.YtpobpijjpbggoaaMem
set_option linter.unusedSimpArgs false
set_option linter.unusedVariables false
namespace Go.Proofs.Ytpobpijjpbggoaa
open Go.RowKit Go.Ten

def accV (a : MemF.Acc) (v : Value) : Value := .agg #[.int .i64 a.kind, .int .i64 a.ref, .int .i64 a.cls, .int .i64 a.n, .int .u64 a.was, v]
/-- The access in memory, two results. -/
def wS (w : World) (c0 c1 c2 c3 c4 v : Value) : World := ((w.alloc (.cells #[c0, c1, c2, c3, c4, v] 39)).alloc (.cells #[.int .i64 0, .int .i64 0, .bool false, .slice none 0 0] 44)).alloc (.cells #[.int .i64 0, .int .i64 0, .bool false, .slice none 0 0] 44)
theorem wS_size (w : World) (c0 c1 c2 c3 c4 v : Value) : (wS w c0 c1 c2 c3 c4 v).heap.size = w.heap.size + 1 + 1 + 1 := by simp [wS]
theorem wS_below (w : World) (c0 c1 c2 c3 c4 v : Value) : Below w.heap.size w (wS w c0 c1 c2 c3 c4 v) := (((Below.refl _ w).alloc (Nat.le_refl _) _).alloc (by simp) _).alloc (by simp; omega) _
theorem wS_b0 (w : World) (c0 c1 c2 c3 c4 v : Value) : Blk (wS w c0 c1 c2 c3 c4 v) w.heap.size [c0, c1, c2, c3, c4, v] 39 := ((Blk.new w [c0, c1, c2, c3, c4, v] _).alloc _).alloc _
theorem wS_b1 (w : World) (c0 c1 c2 c3 c4 v : Value) : Blk (wS w c0 c1 c2 c3 c4 v) (w.heap.size + 1) [.int .i64 0, .int .i64 0, .bool false, .slice none 0 0] 44 := by
  have h := Blk.new (w.alloc (.cells #[c0, c1, c2, c3, c4, v] 39)) [.int .i64 0, .int .i64 0, .bool false, .slice none 0 0] 44
  rw [show (w.alloc (.cells #[c0, c1, c2, c3, c4, v] 39)).heap.size = w.heap.size + 1 by simp] at h
  exact h.alloc _
theorem wS_b2 (w : World) (c0 c1 c2 c3 c4 v : Value) : Blk (wS w c0 c1 c2 c3 c4 v) (w.heap.size + 1 + 1) [.int .i64 0, .int .i64 0, .bool false, .slice none 0 0] 44 := by
  have h := Blk.new ((w.alloc (.cells #[c0, c1, c2, c3, c4, v] 39)).alloc (.cells #[.int .i64 0, .int .i64 0, .bool false, .slice none 0 0] 44)) [.int .i64 0, .int .i64 0, .bool false, .slice none 0 0] 44
  rw [show ((w.alloc (.cells #[c0, c1, c2, c3, c4, v] 39)).alloc (.cells #[.int .i64 0, .int .i64 0, .bool false, .slice none 0 0] 44)).heap.size = w.heap.size + 1 + 1 by simp] at h
  exact h

/-- Behind a call: the access and the two results stand. -/
theorem wS_after {w w1 : World} {c0 c1 c2 c3 c4 v : Value} {m : Nat} {M : MemF.Mem} {W : MW} (h : MemX w m M W) (hu : Upd (MF m W) (wS w c0 c1 c2 c3 c4 v).drew w1) :
    Blk w1 w.heap.size [c0, c1, c2, c3, c4, v] 39 ∧ Blk w1 (w.heap.size + 1) [.int .i64 0, .int .i64 0, .bool false, .slice none 0 0] 44 ∧ Blk w1 (w.heap.size + 1 + 1) [.int .i64 0, .int .i64 0, .bool false, .slice none 0 0] 44 := by
  have hlt := h.lt
  exact ⟨hu.blk (fun e => by have := hlt _ e; omega) (wS_b0 ..), hu.blk (fun e => by have := hlt _ e; omega) (wS_b1 ..), hu.blk (fun e => by have := hlt _ e; omega) (wS_b2 ..)⟩
theorem wS_size' (w : World) (c0 c1 c2 c3 c4 v : Value) : (wS w c0 c1 c2 c3 c4 v).drew.heap.size = w.heap.size + 1 + 1 + 1 := wS_size ..
theorem MemStep.undrew {w w' : World} {m : Nat} {M' : MemF.Mem} {W : MW} (h : MemStep w.drew m W w' M') : MemStep w m W w' M' := by
  obtain ⟨W', h1, h2, h3⟩ := h
  exact ⟨W', h1, h2, ((Upd.refl _ w).drew).trans h3 fun _ _ h => h⟩
theorem upd_ofHead {S : Nat → Prop} {w w' w'' : World} (h : Upd S w' w'') (h0 : Upd S w w') : Upd S w w'' := h0.trans h fun _ _ h => h
theorem AMof {m : Nat} {W : MW} {k : Nat} (h : ¬ MF m W k) : ¬ AM W.a W.X k := fun e => h (.inr (.inl (.inl e)))

set_option maxRecDepth 100000 in
set_option maxHeartbeats 1000000 in
theorem slots_load_calls (m : Nat) (M : MemF.Mem) (W : MW) (r cls n was : Int) (v : Value) (w : World) (h : MemX w m M W) :
    Calls Try.prog 38 #[.pointer (some ⟨m, 0, none⟩), .agg #[.int .i64 1, .int .i64 r, .int .i64 cls, .int .i64 n, .int .u64 was, v]] w fun e w' => ResV w w' { words := (M.ar.load r).1, err := (M.ar.load r).2 } e ∧ MemStep w m W w' M := by
  have hB0 := wS_below w (.int .i64 1) (.int .i64 r) (.int .i64 cls) (.int .i64 n) (.int .u64 was) v
  have hX0 : MemX (wS w (.int .i64 1) (.int .i64 r) (.int .i64 cls) (.int .i64 n) (.int .u64 was) v).drew m M W := h.upd (S := fun _ => False) ((Upd.of_below' hB0).drew) (fun _ _ h => h)
  have hcall := load_calls W.a M.ar W.X r _ hX0.ar
  have hlt := h.blk.lt
  have hX := Lib.hid h
  obtain ⟨ws, er, hA⟩ : ∃ ws er, M.ar.load r = (ws, er) := ⟨_, _, rfl⟩
  rw [hA] at hcall ⊢
  simp only at hcall ⊢
  clear hA
  have hcm := hX0.blk.cell
  have hsz := wS_size' w (.int .i64 1) (.int .i64 r) (.int .i64 cls) (.int .i64 n) (.int .u64 was) v
  replace hX0 := Lib.hid hX0
  replace hB0 := Lib.hid hB0
  replace hsz := Lib.hid hsz
  replace hcall := hcall.mono (R' := fun e w1 => ∃ p N c, e = .returned (.tuple #[.slice p N c, .int .i64 er]) ∧ Hid (N = ws.length) ∧ Hid (CellsR w1 (.slice p N c) N (u64s ws)) ∧ Hid (∀ k, (Value.slice p N c).ownBlock = some k → w.heap.size + 1 + 1 + 1 ≤ k) ∧ Hid (MemStep (wS w (.int .i64 1) (.int .i64 r) (.int .i64 cls) (.int .i64 n) (.int .u64 was) v).drew m W w1 M) ∧
      Blk w1 (w.heap.size + 1) [.int .i64 0, .int .i64 0, .bool false, .slice none 0 0] 44 ∧ Blk w1 (w.heap.size + 1 + 1) [.int .i64 0, .int .i64 0, .bool false, .slice none 0 0] 44) (by
    rintro e w1 ⟨v', rfl, h1, h2, h3⟩
    rw [hsz.out] at h2
    have hs : MemStep (wS w (.int .i64 1) (.int .i64 r) (.int .i64 cls) (.int .i64 n) (.int .u64 was) v).drew m W w1 M := ⟨W, hX0.out.upd (S := fun _ => False) (Upd.of_below' h3) (fun _ _ h => h), fun _ h => .inl h, Upd.of_below' h3⟩
    have ha := wS_after hX.out (Upd.of_below' (S := MF m W) h3)
    obtain ⟨p, c, rfl, -⟩ := id h1
    exact ⟨p, _, c, rfl, rfl, h1, h2, hs, ha.2.1, ha.2.2⟩)
  clear h
  unfold wS at hcall hcm
  go_enter Try.func38, Try.ntmps38
  go_wp2_with fail
  refine undraw ?hB1 ?_
  case hB1 => kernel_rfl
  intro K1 hK1
  simp only [Undraw.withAsks, Undraw.asksOf, Undraw.intsOf, Undraw.strsOf, List.contains, List.elem, Nat.reduceBEq, if_true, List.map_nil, List.map_cons, List.nil_append, List.append_nil, List.cons_append]
  go_wp2_with fail
  refine hcall.mono ?_
  rintro e w1 ⟨p, N, cp, rfl, hN, hcr, hvo, hms, hb1, hb2⟩
  have k1 := hb1.cell
  have k2 := hb2.cell
  have f1 := hb1.frozen
  have f2 := hb2.frozen
  replace hb1 := Lib.hid hb1
  replace hb2 := Lib.hid hb2
  clear hcm hcall
  go_wp2_with fail
  refine bodyPost_ret (v := .agg #[.int .i64 er, .int .i64 0, .bool false, .slice p N cp]) (by simp [results, Try.results38, go_sem, k1]) rfl ?_
  refine ⟨⟨_, rfl, ?_, ?_⟩, MemStep.wrap hX.out hB0.out (MemStep.undrew hms.out) ?_⟩
  · have hN := hN.out
    subst hN
    refine hcr.out.upd (S := fun k => k < w.heap.size + 1 + 1 + 1) ?_ fun k _ hk e => by have := hvo.out k hk; omega
    exact upd_ofHead (upd4 (S := fun k => k < w.heap.size + 1 + 1 + 1) _ (w.heap.size + 1) (by omega) _ _ _ _) (((Upd.refl _ w1).setCell (p := ⟨w.heap.size + 1 + 1, 3, none⟩) (.inl (by show w.heap.size + 1 + 1 < _; omega)) _).setCell (p := ⟨w.heap.size + 1 + 1, 0, none⟩) (.inl (by show w.heap.size + 1 + 1 < _; omega)) _)
  · intro k hk
    have := hvo.out k hk
    omega
  · have hs1 := wS_size w (.int .i64 1) (.int .i64 r) (.int .i64 cls) (.int .i64 n) (.int .u64 was) v
    rw [hs1]
    exact upd_ofHead (upd4 (S := fun k => w.heap.size ≤ k ∧ k < w.heap.size + 1 + 1 + 1) _ (w.heap.size + 1) (by omega) _ _ _ _) (((Upd.refl _ w1).setCell (p := ⟨w.heap.size + 1 + 1, 3, none⟩) (.inl (by show w.heap.size ≤ w.heap.size + 1 + 1 ∧ w.heap.size + 1 + 1 < _; omega)) _).setCell (p := ⟨w.heap.size + 1 + 1, 0, none⟩) (.inl (by show w.heap.size ≤ w.heap.size + 1 + 1 ∧ w.heap.size + 1 + 1 < _; omega)) _)

set_option maxRecDepth 100000 in
set_option maxHeartbeats 1000000 in
theorem slots_swap_calls (m : Nat) (M : MemF.Mem) (W : MW) (r cls n was : Int) (vp : Option Addr) (vn vc : Nat) (ws : List Int) (w : World) (h : MemX w m M W) (hM : MemF.MemOk M) (hv : CellsR w (.slice vp vn vc) ws.length (u64s ws)) (hoff : ∀ k, (Value.slice vp vn vc).ownBlock = some k → ¬ MF m W k) :
    Calls Try.prog 38 #[.pointer (some ⟨m, 0, none⟩), .agg #[.int .i64 2, .int .i64 r, .int .i64 cls, .int .i64 n, .int .u64 was, (.slice vp vn vc)]] w fun e w' => ResV w w' { ok := (M.ar.swap r was ws).2.1, err := (M.ar.swap r was ws).2.2 } e ∧ MemStep w m W w' { M with ar := (M.ar.swap r was ws).1 } := by
  have hB0 := wS_below w (.int .i64 2) (.int .i64 r) (.int .i64 cls) (.int .i64 n) (.int .u64 was) (.slice vp vn vc)
  have hX0 : MemX (wS w (.int .i64 2) (.int .i64 r) (.int .i64 cls) (.int .i64 n) (.int .u64 was) (.slice vp vn vc)).drew m M W := h.upd (S := fun _ => False) ((Upd.of_below' hB0).drew) (fun _ _ h => h)
  have hv0 : CellsR (wS w (.int .i64 2) (.int .i64 r) (.int .i64 cls) (.int .i64 n) (.int .u64 was) (.slice vp vn vc)).drew (.slice vp vn vc) ws.length (u64s ws) := (hv.grew hB0).upd (S := fun _ => False) ((Upd.refl _ _).drew) (fun _ _ _ h => h)
  have hcall := swap_calls W.a M.ar W.X r was (.slice vp vn vc) ws _ hX0.ar hM.ar hv0 (fun k hk e => AMof (hoff k hk) (.inr (.inl e)))
  have hlt := h.blk.lt
  have hX := Lib.hid h
  obtain ⟨A', ok, er, hA⟩ : ∃ A' ok er, M.ar.swap r was ws = (A', ok, er) := ⟨_, _, _, rfl⟩
  rw [hA] at hcall ⊢
  simp only at hcall ⊢
  clear hA
  have hcm := hX0.blk.cell
  have hsz := wS_size' w (.int .i64 2) (.int .i64 r) (.int .i64 cls) (.int .i64 n) (.int .u64 was) (.slice vp vn vc)
  replace hX0 := Lib.hid hX0
  replace hB0 := Lib.hid hB0
  replace hsz := Lib.hid hsz
  replace hcall := hcall.mono (R' := fun e w1 => e = .returned (.tuple #[.bool ok, .int .i64 er]) ∧ Hid (MemStep (wS w (.int .i64 2) (.int .i64 r) (.int .i64 cls) (.int .i64 n) (.int .u64 was) (.slice vp vn vc)).drew m W w1 { M with ar := A' }) ∧
      Blk w1 (w.heap.size + 1) [.int .i64 0, .int .i64 0, .bool false, .slice none 0 0] 44 ∧ Blk w1 (w.heap.size + 1 + 1) [.int .i64 0, .int .i64 0, .bool false, .slice none 0 0] 44) (by
    rintro e w1 ⟨rfl, hst⟩
    have hs := MemStep.ofAr hX0.out hst
    have ha := hs.choose_spec.2.2
    have ha := wS_after hX.out ha
    exact ⟨rfl, hs, ha.2.1, ha.2.2⟩)
  clear h hv hoff hv0
  unfold wS at hcall hcm
  go_enter Try.func38, Try.ntmps38
  go_wp2_with fail
  refine undraw ?hB1 ?_
  case hB1 => kernel_rfl
  intro K1 hK1
  simp only [Undraw.withAsks, Undraw.asksOf, Undraw.intsOf, Undraw.strsOf, List.contains, List.elem, Nat.reduceBEq, if_true, List.map_nil, List.map_cons, List.nil_append, List.append_nil, List.cons_append]
  go_wp2_with fail
  refine hcall.mono ?_
  rintro e w1 ⟨rfl, hms, hb1, hb2⟩
  have k1 := hb1.cell
  have k2 := hb2.cell
  have f1 := hb1.frozen
  have f2 := hb2.frozen
  replace hb1 := Lib.hid hb1
  replace hb2 := Lib.hid hb2
  clear hcm hcall
  go_wp2_with fail
  refine bodyPost_ret (v := .agg #[.int .i64 er, .int .i64 0, .bool ok, .slice none 0 0]) (by simp [results, Try.results38, go_sem, k1]) rfl ?_
  refine ⟨⟨_, rfl, CellsR.nil _, fun k hk => by simp [Value.ownBlock] at hk⟩, MemStep.wrap hX.out hB0.out (MemStep.undrew hms.out) ?_⟩
  have hs1 := wS_size w (.int .i64 2) (.int .i64 r) (.int .i64 cls) (.int .i64 n) (.int .u64 was) (.slice vp vn vc)
  rw [hs1]
  exact upd_ofHead (upd4 (S := fun k => w.heap.size ≤ k ∧ k < w.heap.size + 1 + 1 + 1) _ (w.heap.size + 1) (by omega) _ _ _ _) (((Upd.refl _ w1).setCell (p := ⟨w.heap.size + 1 + 1, 2, none⟩) (.inl (by show w.heap.size ≤ w.heap.size + 1 + 1 ∧ w.heap.size + 1 + 1 < _; omega)) _).setCell (p := ⟨w.heap.size + 1 + 1, 0, none⟩) (.inl (by show w.heap.size ≤ w.heap.size + 1 + 1 ∧ w.heap.size + 1 + 1 < _; omega)) _)

set_option maxRecDepth 100000 in
set_option maxHeartbeats 1000000 in
theorem slots_store_calls (m : Nat) (M : MemF.Mem) (W : MW) (r cls n was : Int) (vp : Option Addr) (vn vc : Nat) (ws : List Int) (w : World) (h : MemX w m M W) (hM : MemF.MemOk M) (hv : CellsR w (.slice vp vn vc) ws.length (u64s ws)) (hoff : ∀ k, (Value.slice vp vn vc).ownBlock = some k → ¬ MF m W k) :
    Calls Try.prog 38 #[.pointer (some ⟨m, 0, none⟩), .agg #[.int .i64 3, .int .i64 r, .int .i64 cls, .int .i64 n, .int .u64 was, (.slice vp vn vc)]] w fun e w' => ResV w w' { err := (M.ar.store r ws).2 } e ∧ MemStep w m W w' { M with ar := (M.ar.store r ws).1 } := by
  have hB0 := wS_below w (.int .i64 3) (.int .i64 r) (.int .i64 cls) (.int .i64 n) (.int .u64 was) (.slice vp vn vc)
  have hX0 : MemX (wS w (.int .i64 3) (.int .i64 r) (.int .i64 cls) (.int .i64 n) (.int .u64 was) (.slice vp vn vc)).drew m M W := h.upd (S := fun _ => False) ((Upd.of_below' hB0).drew) (fun _ _ h => h)
  have hv0 : CellsR (wS w (.int .i64 3) (.int .i64 r) (.int .i64 cls) (.int .i64 n) (.int .u64 was) (.slice vp vn vc)).drew (.slice vp vn vc) ws.length (u64s ws) := (hv.grew hB0).upd (S := fun _ => False) ((Upd.refl _ _).drew) (fun _ _ _ h => h)
  have hcall := store_calls W.a M.ar W.X r (.slice vp vn vc) ws _ hX0.ar hM.ar hv0 (fun k hk e => AMof (hoff k hk) (.inr (.inl e)))
  have hlt := h.blk.lt
  have hX := Lib.hid h
  obtain ⟨A', er, hA⟩ : ∃ A' er, M.ar.store r ws = (A', er) := ⟨_, _, rfl⟩
  rw [hA] at hcall ⊢
  simp only at hcall ⊢
  clear hA
  have hcm := hX0.blk.cell
  have hsz := wS_size' w (.int .i64 3) (.int .i64 r) (.int .i64 cls) (.int .i64 n) (.int .u64 was) (.slice vp vn vc)
  replace hX0 := Lib.hid hX0
  replace hB0 := Lib.hid hB0
  replace hsz := Lib.hid hsz
  replace hcall := hcall.mono (R' := fun e w1 => e = .returned (.int .i64 er) ∧ Hid (MemStep (wS w (.int .i64 3) (.int .i64 r) (.int .i64 cls) (.int .i64 n) (.int .u64 was) (.slice vp vn vc)).drew m W w1 { M with ar := A' }) ∧
      Blk w1 (w.heap.size + 1) [.int .i64 0, .int .i64 0, .bool false, .slice none 0 0] 44 ∧ Blk w1 (w.heap.size + 1 + 1) [.int .i64 0, .int .i64 0, .bool false, .slice none 0 0] 44) (by
    rintro e w1 ⟨rfl, hst⟩
    have hs := MemStep.ofAr hX0.out hst
    have ha := hs.choose_spec.2.2
    have ha := wS_after hX.out ha
    exact ⟨rfl, hs, ha.2.1, ha.2.2⟩)
  clear h hv hoff hv0
  unfold wS at hcall hcm
  go_enter Try.func38, Try.ntmps38
  go_wp2_with fail
  refine undraw ?hB1 ?_
  case hB1 => kernel_rfl
  intro K1 hK1
  simp only [Undraw.withAsks, Undraw.asksOf, Undraw.intsOf, Undraw.strsOf, List.contains, List.elem, Nat.reduceBEq, if_true, List.map_nil, List.map_cons, List.nil_append, List.append_nil, List.cons_append]
  go_wp2_with fail
  refine hcall.mono ?_
  rintro e w1 ⟨rfl, hms, hb1, hb2⟩
  have k1 := hb1.cell
  have k2 := hb2.cell
  have f1 := hb1.frozen
  have f2 := hb2.frozen
  replace hb1 := Lib.hid hb1
  replace hb2 := Lib.hid hb2
  clear hcm hcall
  go_wp2_with fail
  refine bodyPost_ret (v := .agg #[.int .i64 er, .int .i64 0, .bool false, .slice none 0 0]) (by simp [results, Try.results38, go_sem, k1]) rfl ?_
  refine ⟨⟨_, rfl, CellsR.nil _, fun k hk => by simp [Value.ownBlock] at hk⟩, MemStep.wrap hX.out hB0.out (MemStep.undrew hms.out) ?_⟩
  have hs1 := wS_size w (.int .i64 3) (.int .i64 r) (.int .i64 cls) (.int .i64 n) (.int .u64 was) (.slice vp vn vc)
  rw [hs1]
  exact upd_ofHead (upd4 (S := fun k => w.heap.size ≤ k ∧ k < w.heap.size + 1 + 1 + 1) _ (w.heap.size + 1) (by omega) _ _ _ _) ((Upd.refl _ w1).setCell (p := ⟨w.heap.size + 1 + 1, 0, none⟩) (.inl (by show w.heap.size ≤ w.heap.size + 1 + 1 ∧ w.heap.size + 1 + 1 < _; omega)) _)

set_option maxRecDepth 100000 in
set_option maxHeartbeats 1000000 in
theorem slots_alloc_calls (m : Nat) (M : MemF.Mem) (W : MW) (r cls n was : Int) (vp : Option Addr) (vn vc : Nat) (ws : List Int) (w : World) (h : MemX w m M W) (hM : MemF.MemOk M) (hv : CellsR w (.slice vp vn vc) ws.length (u64s ws)) (hoff : ∀ k, (Value.slice vp vn vc).ownBlock = some k → ¬ MF m W k) :
    Calls Try.prog 38 #[.pointer (some ⟨m, 0, none⟩), .agg #[.int .i64 4, .int .i64 r, .int .i64 cls, .int .i64 n, .int .u64 was, (.slice vp vn vc)]] w fun e w' => ResV w w' { n := (M.ar.alloc cls ws).2.1, err := (M.ar.alloc cls ws).2.2 } e ∧ MemStep w m W w' { M with ar := (M.ar.alloc cls ws).1 } := by
  have hB0 := wS_below w (.int .i64 4) (.int .i64 r) (.int .i64 cls) (.int .i64 n) (.int .u64 was) (.slice vp vn vc)
  have hX0 : MemX (wS w (.int .i64 4) (.int .i64 r) (.int .i64 cls) (.int .i64 n) (.int .u64 was) (.slice vp vn vc)).drew m M W := h.upd (S := fun _ => False) ((Upd.of_below' hB0).drew) (fun _ _ h => h)
  have hv0 : CellsR (wS w (.int .i64 4) (.int .i64 r) (.int .i64 cls) (.int .i64 n) (.int .u64 was) (.slice vp vn vc)).drew (.slice vp vn vc) ws.length (u64s ws) := (hv.grew hB0).upd (S := fun _ => False) ((Upd.refl _ _).drew) (fun _ _ _ h => h)
  have hcall := alloc_calls W.a M.ar W.X cls (.slice vp vn vc) ws _ hX0.ar hM.ar hv0 (fun k hk => AMof (hoff k hk))
  have hlt := h.blk.lt
  have hX := Lib.hid h
  obtain ⟨A', x, er, hA⟩ : ∃ A' x er, M.ar.alloc cls ws = (A', x, er) := ⟨_, _, _, rfl⟩
  rw [hA] at hcall ⊢
  simp only at hcall ⊢
  clear hA
  have hcm := hX0.blk.cell
  have hsz := wS_size' w (.int .i64 4) (.int .i64 r) (.int .i64 cls) (.int .i64 n) (.int .u64 was) (.slice vp vn vc)
  replace hX0 := Lib.hid hX0
  replace hB0 := Lib.hid hB0
  replace hsz := Lib.hid hsz
  replace hcall := hcall.mono (R' := fun e w1 => e = .returned (.tuple #[.int .i64 x, .int .i64 er]) ∧ Hid (MemStep (wS w (.int .i64 4) (.int .i64 r) (.int .i64 cls) (.int .i64 n) (.int .u64 was) (.slice vp vn vc)).drew m W w1 { M with ar := A' }) ∧
      Blk w1 (w.heap.size + 1) [.int .i64 0, .int .i64 0, .bool false, .slice none 0 0] 44 ∧ Blk w1 (w.heap.size + 1 + 1) [.int .i64 0, .int .i64 0, .bool false, .slice none 0 0] 44) (by
    rintro e w1 ⟨rfl, hst⟩
    have hs := MemStep.ofAr hX0.out hst
    have ha := hs.choose_spec.2.2
    have ha := wS_after hX.out ha
    exact ⟨rfl, hs, ha.2.1, ha.2.2⟩)
  clear h hv hoff hv0
  unfold wS at hcall hcm
  go_enter Try.func38, Try.ntmps38
  go_wp2_with fail
  refine undraw ?hB1 ?_
  case hB1 => kernel_rfl
  intro K1 hK1
  simp only [Undraw.withAsks, Undraw.asksOf, Undraw.intsOf, Undraw.strsOf, List.contains, List.elem, Nat.reduceBEq, if_true, List.map_nil, List.map_cons, List.nil_append, List.append_nil, List.cons_append]
  go_wp2_with fail
  refine hcall.mono ?_
  rintro e w1 ⟨rfl, hms, hb1, hb2⟩
  have k1 := hb1.cell
  have k2 := hb2.cell
  have f1 := hb1.frozen
  have f2 := hb2.frozen
  replace hb1 := Lib.hid hb1
  replace hb2 := Lib.hid hb2
  clear hcm hcall
  go_wp2_with fail
  refine bodyPost_ret (v := .agg #[.int .i64 er, .int .i64 x, .bool false, .slice none 0 0]) (by simp [results, Try.results38, go_sem, k1]) rfl ?_
  refine ⟨⟨_, rfl, CellsR.nil _, fun k hk => by simp [Value.ownBlock] at hk⟩, MemStep.wrap hX.out hB0.out (MemStep.undrew hms.out) ?_⟩
  have hs1 := wS_size w (.int .i64 4) (.int .i64 r) (.int .i64 cls) (.int .i64 n) (.int .u64 was) (.slice vp vn vc)
  rw [hs1]
  exact upd_ofHead (upd4 (S := fun k => w.heap.size ≤ k ∧ k < w.heap.size + 1 + 1 + 1) _ (w.heap.size + 1) (by omega) _ _ _ _) (((Upd.refl _ w1).setCell (p := ⟨w.heap.size + 1 + 1, 1, none⟩) (.inl (by show w.heap.size ≤ w.heap.size + 1 + 1 ∧ w.heap.size + 1 + 1 < _; omega)) _).setCell (p := ⟨w.heap.size + 1 + 1, 0, none⟩) (.inl (by show w.heap.size ≤ w.heap.size + 1 + 1 ∧ w.heap.size + 1 + 1 < _; omega)) _)

end Go.Proofs.Ytpobpijjpbggoaa
