/- package mem: Do. -/
import Derived.Test.YtpobpijjpbggoaaMem3
set_option linter.unusedSimpArgs false
set_option linter.unusedVariables false
namespace Go.Proofs.Ytpobpijjpbggoaa
open Go.RowKit Go.Ten

/-- The access in memory, a result. -/
def wD (w : World) (c0 c1 c2 c3 c4 v : Value) : World := (w.alloc (.cells #[c0, c1, c2, c3, c4, v] 39)).alloc (.cells #[.int .i64 0, .int .i64 0, .bool false, .slice none 0 0] 44)
theorem wD_size (w : World) (c0 c1 c2 c3 c4 v : Value) : (wD w c0 c1 c2 c3 c4 v).heap.size = w.heap.size + 1 + 1 := by simp [wD]
theorem wD_below (w : World) (c0 c1 c2 c3 c4 v : Value) : Below w.heap.size w (wD w c0 c1 c2 c3 c4 v) := ((Below.refl _ w).alloc (Nat.le_refl _) _).alloc (by simp) _
theorem wD_b1 (w : World) (c0 c1 c2 c3 c4 v : Value) : Blk (wD w c0 c1 c2 c3 c4 v) (w.heap.size + 1) [.int .i64 0, .int .i64 0, .bool false, .slice none 0 0] 44 := by
  have h := Blk.new (w.alloc (.cells #[c0, c1, c2, c3, c4, v] 39)) [.int .i64 0, .int .i64 0, .bool false, .slice none 0 0] 44
  rw [show (w.alloc (.cells #[c0, c1, c2, c3, c4, v] 39)).heap.size = w.heap.size + 1 by simp] at h
  exact h
theorem wD_after {w w1 : World} {c0 c1 c2 c3 c4 v : Value} {m : Nat} {M : MemF.Mem} {W : MW} (h : MemX w m M W) (hu : Upd (MF m W) (wD w c0 c1 c2 c3 c4 v) w1) :
    Blk w1 (w.heap.size + 1) [.int .i64 0, .int .i64 0, .bool false, .slice none 0 0] 44 :=
  hu.blk (fun e => by have := h.lt _ e; omega) (wD_b1 ..)
theorem MemStep.updE {w w' : World} {m : Nat} {W : MW} {M' : MemF.Mem} (h : MemStep w m W w' M') : Upd (MF m W) w w' := h.choose_spec.2.2
/-- What an arm of Do leaves ahead of the store of its result. -/
def DoMid (w : World) (m : Nat) (W : MW) (w0 : World) (r : Value) (M' : MemF.Mem) (e : Ending) (w1 : World) : Prop :=
  e = .returned r ∧ Hid (MemStep w0 m W w1 M') ∧ Blk w1 (w.heap.size + 1) [.int .i64 0, .int .i64 0, .bool false, .slice none 0 0] 44

set_option maxRecDepth 100000 in
set_option maxHeartbeats 1000000 in
theorem do_client_calls (m : Nat) (M : MemF.Mem) (W : MW) (c : Int) (k r cls n was : Int) (v : Value) (w : World) (h : MemX w m M W) (hc : c < 0 ∨ M.clients ≤ c) :
    Calls Try.prog 14 #[.pointer (some ⟨m, 0, none⟩), .int .i64 c, .agg #[.int .i64 k, .int .i64 r, .int .i64 cls, .int .i64 n, .int .u64 was, v]] w fun e w' => ResV w w' { err := 1 } e ∧ MemStep w m W w' M := by
  have hX := Lib.hid h
  have hX0 : MemX (wD w (.int .i64 k) (.int .i64 r) (.int .i64 cls) (.int .i64 n) (.int .u64 was) v) m M W := h.upd (S := fun _ => False) (Upd.of_below' (wD_below ..)) (fun _ _ h => h)
  have hcm := hX0.blk.cell
  unfold wD at hcm
  clear hX0
  by_cases h0 : c < 0
  · clear hc h
    go_enter Try.func14, Try.ntmps14
    go_wp2_with fail
    refine bodyPost_ret (v := .agg #[.int .i64 1, .int .i64 0, .bool false, .slice none 0 0]) (by simp [results, Try.results14, go_sem]) rfl ?_
    exact ⟨⟨_, rfl, CellsR.nil _, fun k hk => by simp [Value.ownBlock] at hk⟩, ((MemStep.same hX.out).alloc _).alloc _⟩
  · obtain ⟨C, hC⟩ : ∃ C, M.clients = C := ⟨_, rfl⟩
    rw [hC] at hcm hc
    have h0' : 0 ≤ c := by omega
    have h1 : C ≤ c := by omega
    clear hc h h0 hC
    go_enter Try.func14, Try.ntmps14
    go_wp2_with fail
    refine bodyPost_ret (v := .agg #[.int .i64 1, .int .i64 0, .bool false, .slice none 0 0]) (by simp [results, Try.results14, go_sem]) rfl ?_
    exact ⟨⟨_, rfl, CellsR.nil _, fun k hk => by simp [Value.ownBlock] at hk⟩, ((MemStep.same hX.out).alloc _).alloc _⟩

set_option maxRecDepth 100000 in
set_option maxHeartbeats 1000000 in
theorem do_other_calls (m : Nat) (M : MemF.Mem) (W : MW) (c : Int) (k r cls n was : Int) (v : Value) (w : World) (h : MemX w m M W) (h0 : 0 ≤ c) (h1 : c < M.clients) (hk : k < 1 ∨ 15 < k) :
    Calls Try.prog 14 #[.pointer (some ⟨m, 0, none⟩), .int .i64 c, .agg #[.int .i64 k, .int .i64 r, .int .i64 cls, .int .i64 n, .int .u64 was, v]] w fun e w' => ResV w w' { err := 1 } e ∧ MemStep w m W w' M := by
  have hX := Lib.hid h
  have hX0 : MemX (wD w (.int .i64 k) (.int .i64 r) (.int .i64 cls) (.int .i64 n) (.int .u64 was) v) m M W := h.upd (S := fun _ => False) (Upd.of_below' (wD_below ..)) (fun _ _ h => h)
  have hcm := hX0.blk.cell
  unfold wD at hcm
  clear hX0
  obtain ⟨C, hC⟩ : ∃ C, M.clients = C := ⟨_, rfl⟩
  rw [hC] at hcm h1
  have e1 : (k == 1) = false := by simp only [beq_eq_false_iff_ne, ne_eq]; omega
  have e2 : (k == 2) = false := by simp only [beq_eq_false_iff_ne, ne_eq]; omega
  have e3 : (k == 3) = false := by simp only [beq_eq_false_iff_ne, ne_eq]; omega
  have e4 : (k == 4) = false := by simp only [beq_eq_false_iff_ne, ne_eq]; omega
  have e5 : (k == 5) = false := by simp only [beq_eq_false_iff_ne, ne_eq]; omega
  have e6 : (k == 6) = false := by simp only [beq_eq_false_iff_ne, ne_eq]; omega
  have e7 : (k == 7) = false := by simp only [beq_eq_false_iff_ne, ne_eq]; omega
  have e8 : (k == 8) = false := by simp only [beq_eq_false_iff_ne, ne_eq]; omega
  have e9 : (k == 9) = false := by simp only [beq_eq_false_iff_ne, ne_eq]; omega
  have e10 : (k == 10) = false := by simp only [beq_eq_false_iff_ne, ne_eq]; omega
  have e11 : (k == 11) = false := by simp only [beq_eq_false_iff_ne, ne_eq]; omega
  have e12 : (k == 12) = false := by simp only [beq_eq_false_iff_ne, ne_eq]; omega
  have e13 : (k == 13) = false := by simp only [beq_eq_false_iff_ne, ne_eq]; omega
  have e14 : (k == 14) = false := by simp only [beq_eq_false_iff_ne, ne_eq]; omega
  have e15 : (k == 15) = false := by simp only [beq_eq_false_iff_ne, ne_eq]; omega
  clear hk h hC
  go_enter Try.func14, Try.ntmps14
  go_wp2_with fail
  refine bodyPost_ret (v := .agg #[.int .i64 1, .int .i64 0, .bool false, .slice none 0 0]) (by simp [results, Try.results14, go_sem]) rfl ?_
  exact ⟨⟨_, rfl, CellsR.nil _, fun k hk => by simp [Value.ownBlock] at hk⟩, ((MemStep.same hX.out).alloc _).alloc _⟩

set_option maxRecDepth 100000 in
set_option maxHeartbeats 1000000 in
theorem do_root_calls (m : Nat) (M : MemF.Mem) (W : MW) (c : Int) (r cls n was : Int) (v : Value) (w : World) (h : MemX w m M W) (h0 : 0 ≤ c) (h1 : c < M.clients) (hr : r = M.root) :
    Calls Try.prog 14 #[.pointer (some ⟨m, 0, none⟩), .int .i64 c, .agg #[.int .i64 6, .int .i64 r, .int .i64 cls, .int .i64 n, .int .u64 was, v]] w fun e w' => ResV w w' { err := 1 } e ∧ MemStep w m W w' M := by
  have hX := Lib.hid h
  have hX0 : MemX (wD w (.int .i64 6) (.int .i64 r) (.int .i64 cls) (.int .i64 n) (.int .u64 was) v) m M W := h.upd (S := fun _ => False) (Upd.of_below' (wD_below ..)) (fun _ _ h => h)
  have hcm := hX0.blk.cell
  unfold wD at hcm
  clear hX0
  obtain ⟨C, hC⟩ : ∃ C, M.clients = C := ⟨_, rfl⟩
  rw [hC] at hcm h1
  rw [← hr] at hcm
  have hrr : (r == r) = true := by simp
  clear h hC hr
  go_enter Try.func14, Try.ntmps14
  go_wp2_with fail
  refine undraw ?hB1 ?_
  case hB1 => kernel_rfl
  intro K1 hK1
  simp only [Undraw.withAsks, Undraw.asksOf, Undraw.intsOf, Undraw.strsOf, List.contains, List.elem, Nat.reduceBEq, if_true, List.map_nil, List.map_cons, List.nil_append, List.append_nil, List.cons_append]
  go_wp2_with fail
  refine bodyPost_ret (v := .agg #[.int .i64 1, .int .i64 0, .bool false, .slice none 0 0]) (by simp [results, Try.results14, go_sem]) rfl ?_
  exact ⟨⟨_, rfl, CellsR.nil _, fun k hk => by simp [Value.ownBlock] at hk⟩, (((MemStep.same hX.out).alloc _).alloc _).drew⟩

set_option maxRecDepth 100000 in
set_option maxHeartbeats 1000000 in
theorem do_retire_calls (m : Nat) (M : MemF.Mem) (W : MW) (c : Int) (r cls n was : Int) (v : Value) (w : World) (h : MemX w m M W) (hM : MemF.MemOk M) (h0 : 0 ≤ c) (h1 : c < M.clients) (hr : r ≠ M.root) :
    Calls Try.prog 14 #[.pointer (some ⟨m, 0, none⟩), .int .i64 c, .agg #[.int .i64 6, .int .i64 r, .int .i64 cls, .int .i64 n, .int .u64 was, v]] w fun e w' => ResV w w' { err := (M.ep.retire c r).2 } e ∧ MemStep w m W w' { M with ep := (M.ep.retire c r).1 } := by
  have hX := Lib.hid h
  have hB0 := wD_below w (.int .i64 6) (.int .i64 r) (.int .i64 cls) (.int .i64 n) (.int .u64 was) v
  have hX0 : MemX (wD w (.int .i64 6) (.int .i64 r) (.int .i64 cls) (.int .i64 n) (.int .u64 was) v) m M W := h.upd (S := fun _ => False) (Upd.of_below' hB0) (fun _ _ h => h)
  have hXd : MemX (wD w (.int .i64 6) (.int .i64 r) (.int .i64 cls) (.int .i64 n) (.int .u64 was) v).drew.drew m M W := hX0.upd (S := fun _ => False) (Upd.drew (Upd.drew (Upd.refl _ _))) (fun _ _ h => h)
  have hcm := hX0.blk.cell
  have hcall := ep_retire_calls W.e M.ep W.Y c r _ hXd.ep hM.ep
  obtain ⟨E', er, hA⟩ : ∃ E' er, M.ep.retire c r = (E', er) := ⟨_, _, rfl⟩
  rw [hA] at hcall ⊢
  simp only at hcall ⊢
  clear hA
  replace hcall := hcall.mono (R' := fun e w1 => DoMid w m W (wD w (.int .i64 6) (.int .i64 r) (.int .i64 cls) (.int .i64 n) (.int .u64 was) v).drew.drew (.int .i64 er) { M with ep := E' } e w1) (by
    rintro e w1 ⟨rfl, hst⟩
    have hs := MemStep.ofEp hXd hst
    exact ⟨rfl, hs, wD_after hX.out ((Upd.drew (Upd.drew (Upd.refl (MF m W) (wD w (.int .i64 6) (.int .i64 r) (.int .i64 cls) (.int .i64 n) (.int .u64 was) v)))).trans hs.updE fun _ _ h => h)⟩)
  obtain ⟨C, hC⟩ : ∃ C, M.clients = C := ⟨_, rfl⟩
  rw [hC] at hcm h1
  obtain ⟨R, hR⟩ : ∃ R, M.root = R := ⟨_, rfl⟩
  rw [hR] at hcm hr
  have hrr : (r == R) = false := by simpa using hr
  clear hR hr
  have hsz := Lib.hid (wD_size w (.int .i64 6) (.int .i64 r) (.int .i64 cls) (.int .i64 n) (.int .u64 was) v)
  replace hB0 := Lib.hid hB0
  replace hX0 := Lib.hid hX0
  replace hXd := Lib.hid hXd
  replace hM := Lib.hid hM
  clear h hC
  unfold wD at hcall hcm
  go_enter Try.func14, Try.ntmps14
  go_wp2_with fail
  refine undraw ?hB1 ?_
  case hB1 => kernel_rfl
  intro K1 hK1
  simp only [Undraw.withAsks, Undraw.asksOf, Undraw.intsOf, Undraw.strsOf, List.contains, List.elem, Nat.reduceBEq, if_true, List.map_nil, List.map_cons, List.nil_append, List.append_nil, List.cons_append]
  go_wp2_with fail
  refine undraw ?hB2 ?_
  case hB2 => kernel_rfl
  intro K2 hK2
  simp only [Undraw.withAsks, Undraw.asksOf, Undraw.intsOf, Undraw.strsOf, List.contains, List.elem, Nat.reduceBEq, if_true, List.map_nil, List.map_cons, List.nil_append, List.append_nil, List.cons_append]
  go_wp2_with fail
  refine hcall.mono ?_
  rintro e w1 ⟨rfl, hms, hb1⟩
  have k1 := hb1.cell
  have f1 := hb1.frozen
  replace hb1 := Lib.hid hb1
  clear hcm hcall
  go_wp2_with fail
  refine bodyPost_ret (v := .agg #[.int .i64 er, .int .i64 0, .bool false, .slice none 0 0]) (by simp [results, Try.results14, go_sem, k1]) rfl ?_
  refine ⟨⟨_, rfl, CellsR.nil _, fun k hk => by simp [Value.ownBlock] at hk⟩, MemStep.wrap hX.out hB0.out (MemStep.undrew (MemStep.undrew (hms.out))) ?_⟩
  rw [hsz.out]
  exact upd4 (S := fun k => w.heap.size ≤ k ∧ k < w.heap.size + 1 + 1) _ (w.heap.size + 1) (by omega) _ _ _ _

set_option maxRecDepth 100000 in
set_option maxHeartbeats 1000000 in
theorem do_epoch_calls (m : Nat) (M : MemF.Mem) (W : MW) (c : Int) (r cls n was : Int) (v : Value) (w : World) (h : MemX w m M W) (hM : MemF.MemOk M) (h0 : 0 ≤ c) (h1 : c < M.clients) :
    Calls Try.prog 14 #[.pointer (some ⟨m, 0, none⟩), .int .i64 c, .agg #[.int .i64 7, .int .i64 r, .int .i64 cls, .int .i64 n, .int .u64 was, v]] w fun e w' => ResV w w' { n := M.ep.now } e ∧ MemStep w m W w' M := by
  have hX := Lib.hid h
  have hB0 := wD_below w (.int .i64 7) (.int .i64 r) (.int .i64 cls) (.int .i64 n) (.int .u64 was) v
  have hX0 : MemX (wD w (.int .i64 7) (.int .i64 r) (.int .i64 cls) (.int .i64 n) (.int .u64 was) v) m M W := h.upd (S := fun _ => False) (Upd.of_below' hB0) (fun _ _ h => h)
  have hXd : MemX (wD w (.int .i64 7) (.int .i64 r) (.int .i64 cls) (.int .i64 n) (.int .u64 was) v) m M W := hX0.upd (S := fun _ => False) (Upd.refl _ _) (fun _ _ h => h)
  have hcm := hX0.blk.cell
  have hcall := ep_now_calls W.e M.ep W.Y _ hXd.ep
  generalize M.ep.now = z at hcall ⊢
  replace hcall := hcall.mono (R' := fun e w1 => DoMid w m W (wD w (.int .i64 7) (.int .i64 r) (.int .i64 cls) (.int .i64 n) (.int .u64 was) v) (.int .i64 z) M e w1) (by
    rintro e w1 ⟨rfl, rfl⟩
    have hs := MemStep.same hXd
    exact ⟨rfl, hs, wD_after hX.out ((Upd.refl (MF m W) (wD w (.int .i64 7) (.int .i64 r) (.int .i64 cls) (.int .i64 n) (.int .u64 was) v)).trans hs.updE fun _ _ h => h)⟩)
  obtain ⟨C, hC⟩ : ∃ C, M.clients = C := ⟨_, rfl⟩
  rw [hC] at hcm h1
  have hsz := Lib.hid (wD_size w (.int .i64 7) (.int .i64 r) (.int .i64 cls) (.int .i64 n) (.int .u64 was) v)
  replace hB0 := Lib.hid hB0
  replace hX0 := Lib.hid hX0
  replace hXd := Lib.hid hXd
  replace hM := Lib.hid hM
  clear h hC
  unfold wD at hcall hcm
  go_enter Try.func14, Try.ntmps14
  go_wp2_with fail
  refine hcall.mono ?_
  rintro e w1 ⟨rfl, hms, hb1⟩
  have k1 := hb1.cell
  have f1 := hb1.frozen
  replace hb1 := Lib.hid hb1
  clear hcm hcall
  go_wp2_with fail
  refine bodyPost_ret (v := .agg #[.int .i64 0, .int .i64 z, .bool false, .slice none 0 0]) (by simp [results, Try.results14, go_sem, k1]) rfl ?_
  refine ⟨⟨_, rfl, CellsR.nil _, fun k hk => by simp [Value.ownBlock] at hk⟩, MemStep.wrap hX.out hB0.out (hms.out) ?_⟩
  rw [hsz.out]
  exact upd4 (S := fun k => w.heap.size ≤ k ∧ k < w.heap.size + 1 + 1) _ (w.heap.size + 1) (by omega) _ _ _ _

set_option maxRecDepth 100000 in
set_option maxHeartbeats 1000000 in
theorem do_pin_calls (m : Nat) (M : MemF.Mem) (W : MW) (c : Int) (r cls n was : Int) (v : Value) (w : World) (h : MemX w m M W) (hM : MemF.MemOk M) (h0 : 0 ≤ c) (h1 : c < M.clients) :
    Calls Try.prog 14 #[.pointer (some ⟨m, 0, none⟩), .int .i64 c, .agg #[.int .i64 8, .int .i64 r, .int .i64 cls, .int .i64 n, .int .u64 was, v]] w fun e w' => ResV w w' { ok := (M.ep.pin c n).2 } e ∧ MemStep w m W w' { M with ep := (M.ep.pin c n).1 } := by
  have hX := Lib.hid h
  have hB0 := wD_below w (.int .i64 8) (.int .i64 r) (.int .i64 cls) (.int .i64 n) (.int .u64 was) v
  have hX0 : MemX (wD w (.int .i64 8) (.int .i64 r) (.int .i64 cls) (.int .i64 n) (.int .u64 was) v) m M W := h.upd (S := fun _ => False) (Upd.of_below' hB0) (fun _ _ h => h)
  have hXd : MemX (wD w (.int .i64 8) (.int .i64 r) (.int .i64 cls) (.int .i64 n) (.int .u64 was) v).drew m M W := hX0.upd (S := fun _ => False) (Upd.drew (Upd.refl _ _)) (fun _ _ h => h)
  have hcm := hX0.blk.cell
  have hcall := ep_pin_calls W.e M.ep W.Y c n _ hXd.ep
  obtain ⟨E', ok, hA⟩ : ∃ E' ok, M.ep.pin c n = (E', ok) := ⟨_, _, rfl⟩
  rw [hA] at hcall ⊢
  simp only at hcall ⊢
  clear hA
  replace hcall := hcall.mono (R' := fun e w1 => DoMid w m W (wD w (.int .i64 8) (.int .i64 r) (.int .i64 cls) (.int .i64 n) (.int .u64 was) v).drew (.bool ok) { M with ep := E' } e w1) (by
    rintro e w1 ⟨rfl, hst⟩
    have hs := MemStep.ofEp hXd hst
    exact ⟨rfl, hs, wD_after hX.out ((Upd.drew (Upd.refl (MF m W) (wD w (.int .i64 8) (.int .i64 r) (.int .i64 cls) (.int .i64 n) (.int .u64 was) v))).trans hs.updE fun _ _ h => h)⟩)
  obtain ⟨C, hC⟩ : ∃ C, M.clients = C := ⟨_, rfl⟩
  rw [hC] at hcm h1
  have hsz := Lib.hid (wD_size w (.int .i64 8) (.int .i64 r) (.int .i64 cls) (.int .i64 n) (.int .u64 was) v)
  replace hB0 := Lib.hid hB0
  replace hX0 := Lib.hid hX0
  replace hXd := Lib.hid hXd
  replace hM := Lib.hid hM
  clear h hC
  unfold wD at hcall hcm
  go_enter Try.func14, Try.ntmps14
  go_wp2_with fail
  refine undraw ?hB1 ?_
  case hB1 => kernel_rfl
  intro K1 hK1
  simp only [Undraw.withAsks, Undraw.asksOf, Undraw.intsOf, Undraw.strsOf, List.contains, List.elem, Nat.reduceBEq, if_true, List.map_nil, List.map_cons, List.nil_append, List.append_nil, List.cons_append]
  go_wp2_with fail
  refine hcall.mono ?_
  rintro e w1 ⟨rfl, hms, hb1⟩
  have k1 := hb1.cell
  have f1 := hb1.frozen
  replace hb1 := Lib.hid hb1
  clear hcm hcall
  go_wp2_with fail
  refine bodyPost_ret (v := .agg #[.int .i64 0, .int .i64 0, .bool ok, .slice none 0 0]) (by simp [results, Try.results14, go_sem, k1]) rfl ?_
  refine ⟨⟨_, rfl, CellsR.nil _, fun k hk => by simp [Value.ownBlock] at hk⟩, MemStep.wrap hX.out hB0.out (MemStep.undrew (hms.out)) ?_⟩
  rw [hsz.out]
  exact upd4 (S := fun k => w.heap.size ≤ k ∧ k < w.heap.size + 1 + 1) _ (w.heap.size + 1) (by omega) _ _ _ _

set_option maxRecDepth 100000 in
set_option maxHeartbeats 1000000 in
theorem do_unpin_calls (m : Nat) (M : MemF.Mem) (W : MW) (c : Int) (r cls n was : Int) (v : Value) (w : World) (h : MemX w m M W) (hM : MemF.MemOk M) (h0 : 0 ≤ c) (h1 : c < M.clients) :
    Calls Try.prog 14 #[.pointer (some ⟨m, 0, none⟩), .int .i64 c, .agg #[.int .i64 9, .int .i64 r, .int .i64 cls, .int .i64 n, .int .u64 was, v]] w fun e w' => ResV w w' { ok := (M.ep.unpin c).2 } e ∧ MemStep w m W w' { M with ep := (M.ep.unpin c).1 } := by
  have hX := Lib.hid h
  have hB0 := wD_below w (.int .i64 9) (.int .i64 r) (.int .i64 cls) (.int .i64 n) (.int .u64 was) v
  have hX0 : MemX (wD w (.int .i64 9) (.int .i64 r) (.int .i64 cls) (.int .i64 n) (.int .u64 was) v) m M W := h.upd (S := fun _ => False) (Upd.of_below' hB0) (fun _ _ h => h)
  have hXd : MemX (wD w (.int .i64 9) (.int .i64 r) (.int .i64 cls) (.int .i64 n) (.int .u64 was) v) m M W := hX0.upd (S := fun _ => False) (Upd.refl _ _) (fun _ _ h => h)
  have hcm := hX0.blk.cell
  have hcall := ep_unpin_calls W.e M.ep W.Y c _ hXd.ep
  obtain ⟨E', ok, hA⟩ : ∃ E' ok, M.ep.unpin c = (E', ok) := ⟨_, _, rfl⟩
  rw [hA] at hcall ⊢
  simp only at hcall ⊢
  clear hA
  replace hcall := hcall.mono (R' := fun e w1 => DoMid w m W (wD w (.int .i64 9) (.int .i64 r) (.int .i64 cls) (.int .i64 n) (.int .u64 was) v) (.bool ok) { M with ep := E' } e w1) (by
    rintro e w1 ⟨rfl, hst⟩
    have hs := MemStep.ofEp hXd hst
    exact ⟨rfl, hs, wD_after hX.out ((Upd.refl (MF m W) (wD w (.int .i64 9) (.int .i64 r) (.int .i64 cls) (.int .i64 n) (.int .u64 was) v)).trans hs.updE fun _ _ h => h)⟩)
  obtain ⟨C, hC⟩ : ∃ C, M.clients = C := ⟨_, rfl⟩
  rw [hC] at hcm h1
  have hsz := Lib.hid (wD_size w (.int .i64 9) (.int .i64 r) (.int .i64 cls) (.int .i64 n) (.int .u64 was) v)
  replace hB0 := Lib.hid hB0
  replace hX0 := Lib.hid hX0
  replace hXd := Lib.hid hXd
  replace hM := Lib.hid hM
  clear h hC
  unfold wD at hcall hcm
  go_enter Try.func14, Try.ntmps14
  go_wp2_with fail
  refine hcall.mono ?_
  rintro e w1 ⟨rfl, hms, hb1⟩
  have k1 := hb1.cell
  have f1 := hb1.frozen
  replace hb1 := Lib.hid hb1
  clear hcm hcall
  go_wp2_with fail
  refine bodyPost_ret (v := .agg #[.int .i64 0, .int .i64 0, .bool ok, .slice none 0 0]) (by simp [results, Try.results14, go_sem, k1]) rfl ?_
  refine ⟨⟨_, rfl, CellsR.nil _, fun k hk => by simp [Value.ownBlock] at hk⟩, MemStep.wrap hX.out hB0.out (hms.out) ?_⟩
  rw [hsz.out]
  exact upd4 (S := fun k => w.heap.size ≤ k ∧ k < w.heap.size + 1 + 1) _ (w.heap.size + 1) (by omega) _ _ _ _

set_option maxRecDepth 100000 in
set_option maxHeartbeats 1000000 in
theorem do_pinof_calls (m : Nat) (M : MemF.Mem) (W : MW) (c : Int) (r cls n was : Int) (v : Value) (w : World) (h : MemX w m M W) (hM : MemF.MemOk M) (h0 : 0 ≤ c) (h1 : c < M.clients) :
    Calls Try.prog 14 #[.pointer (some ⟨m, 0, none⟩), .int .i64 c, .agg #[.int .i64 10, .int .i64 r, .int .i64 cls, .int .i64 n, .int .u64 was, v]] w fun e w' => ResV w w' { n := M.ep.pinOf n } e ∧ MemStep w m W w' M := by
  have hX := Lib.hid h
  have hB0 := wD_below w (.int .i64 10) (.int .i64 r) (.int .i64 cls) (.int .i64 n) (.int .u64 was) v
  have hX0 : MemX (wD w (.int .i64 10) (.int .i64 r) (.int .i64 cls) (.int .i64 n) (.int .u64 was) v) m M W := h.upd (S := fun _ => False) (Upd.of_below' hB0) (fun _ _ h => h)
  have hXd : MemX (wD w (.int .i64 10) (.int .i64 r) (.int .i64 cls) (.int .i64 n) (.int .u64 was) v).drew m M W := hX0.upd (S := fun _ => False) (Upd.drew (Upd.refl _ _)) (fun _ _ h => h)
  have hcm := hX0.blk.cell
  have hcall := ep_pinof_calls W.e M.ep W.Y n _ hXd.ep
  generalize M.ep.pinOf n = z at hcall ⊢
  replace hcall := hcall.mono (R' := fun e w1 => DoMid w m W (wD w (.int .i64 10) (.int .i64 r) (.int .i64 cls) (.int .i64 n) (.int .u64 was) v).drew (.int .i64 z) M e w1) (by
    rintro e w1 ⟨rfl, rfl⟩
    have hs := MemStep.same hXd
    exact ⟨rfl, hs, wD_after hX.out ((Upd.drew (Upd.refl (MF m W) (wD w (.int .i64 10) (.int .i64 r) (.int .i64 cls) (.int .i64 n) (.int .u64 was) v))).trans hs.updE fun _ _ h => h)⟩)
  obtain ⟨C, hC⟩ : ∃ C, M.clients = C := ⟨_, rfl⟩
  rw [hC] at hcm h1
  have hsz := Lib.hid (wD_size w (.int .i64 10) (.int .i64 r) (.int .i64 cls) (.int .i64 n) (.int .u64 was) v)
  replace hB0 := Lib.hid hB0
  replace hX0 := Lib.hid hX0
  replace hXd := Lib.hid hXd
  replace hM := Lib.hid hM
  clear h hC
  unfold wD at hcall hcm
  go_enter Try.func14, Try.ntmps14
  go_wp2_with fail
  refine undraw ?hB1 ?_
  case hB1 => kernel_rfl
  intro K1 hK1
  simp only [Undraw.withAsks, Undraw.asksOf, Undraw.intsOf, Undraw.strsOf, List.contains, List.elem, Nat.reduceBEq, if_true, List.map_nil, List.map_cons, List.nil_append, List.append_nil, List.cons_append]
  go_wp2_with fail
  refine hcall.mono ?_
  rintro e w1 ⟨rfl, hms, hb1⟩
  have k1 := hb1.cell
  have f1 := hb1.frozen
  replace hb1 := Lib.hid hb1
  clear hcm hcall
  go_wp2_with fail
  refine bodyPost_ret (v := .agg #[.int .i64 0, .int .i64 z, .bool false, .slice none 0 0]) (by simp [results, Try.results14, go_sem, k1]) rfl ?_
  refine ⟨⟨_, rfl, CellsR.nil _, fun k hk => by simp [Value.ownBlock] at hk⟩, MemStep.wrap hX.out hB0.out (MemStep.undrew (hms.out)) ?_⟩
  rw [hsz.out]
  exact upd4 (S := fun k => w.heap.size ≤ k ∧ k < w.heap.size + 1 + 1) _ (w.heap.size + 1) (by omega) _ _ _ _

set_option maxRecDepth 100000 in
set_option maxHeartbeats 1000000 in
theorem do_advance_calls (m : Nat) (M : MemF.Mem) (W : MW) (c : Int) (r cls n was : Int) (v : Value) (w : World) (h : MemX w m M W) (hM : MemF.MemOk M) (h0 : 0 ≤ c) (h1 : c < M.clients) :
    Calls Try.prog 14 #[.pointer (some ⟨m, 0, none⟩), .int .i64 c, .agg #[.int .i64 11, .int .i64 r, .int .i64 cls, .int .i64 n, .int .u64 was, v]] w fun e w' => ResV w w' { ok := (M.ep.advance n).2 } e ∧ MemStep w m W w' { M with ep := (M.ep.advance n).1 } := by
  have hX := Lib.hid h
  have hB0 := wD_below w (.int .i64 11) (.int .i64 r) (.int .i64 cls) (.int .i64 n) (.int .u64 was) v
  have hX0 : MemX (wD w (.int .i64 11) (.int .i64 r) (.int .i64 cls) (.int .i64 n) (.int .u64 was) v) m M W := h.upd (S := fun _ => False) (Upd.of_below' hB0) (fun _ _ h => h)
  have hXd : MemX (wD w (.int .i64 11) (.int .i64 r) (.int .i64 cls) (.int .i64 n) (.int .u64 was) v).drew m M W := hX0.upd (S := fun _ => False) (Upd.drew (Upd.refl _ _)) (fun _ _ h => h)
  have hcm := hX0.blk.cell
  have hcall := ep_advance_calls W.e M.ep W.Y n _ hXd.ep hM.ep.now
  obtain ⟨E', ok, hA⟩ : ∃ E' ok, M.ep.advance n = (E', ok) := ⟨_, _, rfl⟩
  rw [hA] at hcall ⊢
  simp only at hcall ⊢
  clear hA
  replace hcall := hcall.mono (R' := fun e w1 => DoMid w m W (wD w (.int .i64 11) (.int .i64 r) (.int .i64 cls) (.int .i64 n) (.int .u64 was) v).drew (.bool ok) { M with ep := E' } e w1) (by
    rintro e w1 ⟨rfl, hst⟩
    have hs := MemStep.ofEp hXd hst
    exact ⟨rfl, hs, wD_after hX.out ((Upd.drew (Upd.refl (MF m W) (wD w (.int .i64 11) (.int .i64 r) (.int .i64 cls) (.int .i64 n) (.int .u64 was) v))).trans hs.updE fun _ _ h => h)⟩)
  obtain ⟨C, hC⟩ : ∃ C, M.clients = C := ⟨_, rfl⟩
  rw [hC] at hcm h1
  have hsz := Lib.hid (wD_size w (.int .i64 11) (.int .i64 r) (.int .i64 cls) (.int .i64 n) (.int .u64 was) v)
  replace hB0 := Lib.hid hB0
  replace hX0 := Lib.hid hX0
  replace hXd := Lib.hid hXd
  replace hM := Lib.hid hM
  clear h hC
  unfold wD at hcall hcm
  go_enter Try.func14, Try.ntmps14
  go_wp2_with fail
  refine undraw ?hB1 ?_
  case hB1 => kernel_rfl
  intro K1 hK1
  simp only [Undraw.withAsks, Undraw.asksOf, Undraw.intsOf, Undraw.strsOf, List.contains, List.elem, Nat.reduceBEq, if_true, List.map_nil, List.map_cons, List.nil_append, List.append_nil, List.cons_append]
  go_wp2_with fail
  refine hcall.mono ?_
  rintro e w1 ⟨rfl, hms, hb1⟩
  have k1 := hb1.cell
  have f1 := hb1.frozen
  replace hb1 := Lib.hid hb1
  clear hcm hcall
  go_wp2_with fail
  refine bodyPost_ret (v := .agg #[.int .i64 0, .int .i64 0, .bool ok, .slice none 0 0]) (by simp [results, Try.results14, go_sem, k1]) rfl ?_
  refine ⟨⟨_, rfl, CellsR.nil _, fun k hk => by simp [Value.ownBlock] at hk⟩, MemStep.wrap hX.out hB0.out (MemStep.undrew (hms.out)) ?_⟩
  rw [hsz.out]
  exact upd4 (S := fun k => w.heap.size ≤ k ∧ k < w.heap.size + 1 + 1) _ (w.heap.size + 1) (by omega) _ _ _ _
end Go.Proofs.Ytpobpijjpbggoaa
