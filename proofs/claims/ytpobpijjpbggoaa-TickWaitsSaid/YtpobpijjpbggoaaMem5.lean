/- package mem: Do's arms that hand a result on; Do as one. -/
import Derived.Test.YtpobpijjpbggoaaMem4
set_option linter.unusedSimpArgs false
set_option linter.unusedVariables false
namespace Go.Proofs.Ytpobpijjpbggoaa
open Go.RowKit Go.Ten

/-- What such an arm leaves ahead of the store of its result. -/
def DoMidR (w : World) (m : Nat) (W : MW) (w0 : World) (r : MemF.Res) (M' : MemF.Mem) (e : Ending) (w1 : World) : Prop :=
  ∃ p N c, e = .returned (.agg #[.int .i64 r.err, .int .i64 r.n, .bool r.ok, .slice p N c]) ∧ Hid (N = r.words.length) ∧ Hid (CellsR w1 (.slice p N c) N (u64s r.words)) ∧ Hid (∀ k, (Value.slice p N c).ownBlock = some k → w0.heap.size ≤ k) ∧
    Hid (MemStep w0 m W w1 M') ∧ Blk w1 (w.heap.size + 1) [.int .i64 0, .int .i64 0, .bool false, .slice none 0 0] 44

set_option maxRecDepth 100000 in
set_option maxHeartbeats 2000000 in
theorem do_slots1_calls (m : Nat) (M : MemF.Mem) (W : MW) (c : Int) (r cls n was : Int) (v : Value) (w : World) (h : MemX w m M W) (hM : MemF.MemOk M) (h0 : 0 ≤ c) (h1 : c < M.clients) (wsA : List Int) (hv : CellsR w v wsA.length (u64s wsA)) (hoff : ∀ k, v.ownBlock = some k → ¬ MF m W k) :
    Calls Try.prog 14 #[.pointer (some ⟨m, 0, none⟩), .int .i64 c, .agg #[.int .i64 1, .int .i64 r, .int .i64 cls, .int .i64 n, .int .u64 was, v]] w fun e w' => ResV w w' (M.slots ⟨1, r, cls, n, was, wsA⟩).2 e ∧ MemStep w m W w' (M.slots ⟨1, r, cls, n, was, wsA⟩).1 := by
  have hX := Lib.hid h
  have hB0 := wD_below w (.int .i64 1) (.int .i64 r) (.int .i64 cls) (.int .i64 n) (.int .u64 was) v
  have hXd : MemX (wD w (.int .i64 1) (.int .i64 r) (.int .i64 cls) (.int .i64 n) (.int .u64 was) v) m M W := h.upd (S := fun _ => False) (Upd.of_below' hB0) (fun _ _ h => h)
  have hcm := hXd.blk.cell
  have hcall := slots_calls m M W ⟨1, r, cls, n, was, wsA⟩ v _ hXd hM ⟨by show (1 : Int) ≤ 1; decide, by show (1 : Int) ≤ 5; decide⟩ (hv.grew hB0) hoff
  generalize (M.slots ⟨1, r, cls, n, was, wsA⟩) = res at hcall ⊢
  obtain ⟨M', er, x, ok, ws⟩ := res
  simp only at hcall ⊢
  replace hcall := hcall.mono (R' := fun e w1 => DoMidR w m W (wD w (.int .i64 1) (.int .i64 r) (.int .i64 cls) (.int .i64 n) (.int .u64 was) v) ⟨er, x, ok, ws⟩ M' e w1) (by
    rintro e w1 ⟨⟨v', rfl, hcr, hvo⟩, hs⟩
    obtain ⟨p, cp, rfl, -⟩ := id hcr
    exact ⟨p, _, cp, rfl, rfl, hcr, hvo, hs, wD_after hX.out hs.updE⟩)
  obtain ⟨C, hC⟩ : ∃ C, M.clients = C := ⟨_, rfl⟩
  rw [hC] at hcm h1
  have hsz := Lib.hid (wD_size w (.int .i64 1) (.int .i64 r) (.int .i64 cls) (.int .i64 n) (.int .u64 was) v)
  replace hB0 := Lib.hid hB0
  replace hXd := Lib.hid hXd
  replace hM := Lib.hid hM
  have hk := 0
  unfold accV at hcall
  simp only at hcall
  clear h hC hv hoff hk
  unfold wD at hcall hcm
  go_enter Try.func14, Try.ntmps14
  go_wp2_with fail
  refine hcall.mono ?_
  rintro e w1 ⟨p, N, cp, rfl, hN, hcr, hvo, hms, hb1⟩
  have k1 := hb1.cell
  have f1 := hb1.frozen
  replace hb1 := Lib.hid hb1
  clear hcm hcall
  go_wp2_with fail
  refine bodyPost_ret (v := .agg #[.int .i64 er, .int .i64 x, .bool ok, .slice p N cp]) (by simp [results, Try.results14, go_sem, k1]) rfl ?_
  have hvo' := hvo.out
  have hsz' := hsz.out
  unfold wD at hvo' hsz'
  rw [hsz'] at hvo'
  refine ⟨⟨_, rfl, ?_, fun k hk => by have := hvo' k hk; omega⟩, MemStep.wrap hX.out hB0.out hms.out ?_⟩
  · have hN := hN.out
    subst hN
    refine hcr.out.upd (S := fun k => k < w.heap.size + 1 + 1) (upd4 (S := fun k => k < w.heap.size + 1 + 1) _ (w.heap.size + 1) (by omega) _ _ _ _) fun k _ hk e => by have := hvo' k hk; omega
  · rw [hsz.out]
    exact upd4 (S := fun k => w.heap.size ≤ k ∧ k < w.heap.size + 1 + 1) _ (w.heap.size + 1) (by omega) _ _ _ _

set_option maxRecDepth 100000 in
set_option maxHeartbeats 2000000 in
theorem do_slots2_calls (m : Nat) (M : MemF.Mem) (W : MW) (c : Int) (r cls n was : Int) (v : Value) (w : World) (h : MemX w m M W) (hM : MemF.MemOk M) (h0 : 0 ≤ c) (h1 : c < M.clients) (wsA : List Int) (hv : CellsR w v wsA.length (u64s wsA)) (hoff : ∀ k, v.ownBlock = some k → ¬ MF m W k) :
    Calls Try.prog 14 #[.pointer (some ⟨m, 0, none⟩), .int .i64 c, .agg #[.int .i64 2, .int .i64 r, .int .i64 cls, .int .i64 n, .int .u64 was, v]] w fun e w' => ResV w w' (M.slots ⟨2, r, cls, n, was, wsA⟩).2 e ∧ MemStep w m W w' (M.slots ⟨2, r, cls, n, was, wsA⟩).1 := by
  have hX := Lib.hid h
  have hB0 := wD_below w (.int .i64 2) (.int .i64 r) (.int .i64 cls) (.int .i64 n) (.int .u64 was) v
  have hXd : MemX (wD w (.int .i64 2) (.int .i64 r) (.int .i64 cls) (.int .i64 n) (.int .u64 was) v) m M W := h.upd (S := fun _ => False) (Upd.of_below' hB0) (fun _ _ h => h)
  have hcm := hXd.blk.cell
  have hcall := slots_calls m M W ⟨2, r, cls, n, was, wsA⟩ v _ hXd hM ⟨by show (1 : Int) ≤ 2; decide, by show (2 : Int) ≤ 5; decide⟩ (hv.grew hB0) hoff
  generalize (M.slots ⟨2, r, cls, n, was, wsA⟩) = res at hcall ⊢
  obtain ⟨M', er, x, ok, ws⟩ := res
  simp only at hcall ⊢
  replace hcall := hcall.mono (R' := fun e w1 => DoMidR w m W (wD w (.int .i64 2) (.int .i64 r) (.int .i64 cls) (.int .i64 n) (.int .u64 was) v) ⟨er, x, ok, ws⟩ M' e w1) (by
    rintro e w1 ⟨⟨v', rfl, hcr, hvo⟩, hs⟩
    obtain ⟨p, cp, rfl, -⟩ := id hcr
    exact ⟨p, _, cp, rfl, rfl, hcr, hvo, hs, wD_after hX.out hs.updE⟩)
  obtain ⟨C, hC⟩ : ∃ C, M.clients = C := ⟨_, rfl⟩
  rw [hC] at hcm h1
  have hsz := Lib.hid (wD_size w (.int .i64 2) (.int .i64 r) (.int .i64 cls) (.int .i64 n) (.int .u64 was) v)
  replace hB0 := Lib.hid hB0
  replace hXd := Lib.hid hXd
  replace hM := Lib.hid hM
  have hk := 0
  unfold accV at hcall
  simp only at hcall
  clear h hC hv hoff hk
  unfold wD at hcall hcm
  go_enter Try.func14, Try.ntmps14
  go_wp2_with fail
  refine hcall.mono ?_
  rintro e w1 ⟨p, N, cp, rfl, hN, hcr, hvo, hms, hb1⟩
  have k1 := hb1.cell
  have f1 := hb1.frozen
  replace hb1 := Lib.hid hb1
  clear hcm hcall
  go_wp2_with fail
  refine bodyPost_ret (v := .agg #[.int .i64 er, .int .i64 x, .bool ok, .slice p N cp]) (by simp [results, Try.results14, go_sem, k1]) rfl ?_
  have hvo' := hvo.out
  have hsz' := hsz.out
  unfold wD at hvo' hsz'
  rw [hsz'] at hvo'
  refine ⟨⟨_, rfl, ?_, fun k hk => by have := hvo' k hk; omega⟩, MemStep.wrap hX.out hB0.out hms.out ?_⟩
  · have hN := hN.out
    subst hN
    refine hcr.out.upd (S := fun k => k < w.heap.size + 1 + 1) (upd4 (S := fun k => k < w.heap.size + 1 + 1) _ (w.heap.size + 1) (by omega) _ _ _ _) fun k _ hk e => by have := hvo' k hk; omega
  · rw [hsz.out]
    exact upd4 (S := fun k => w.heap.size ≤ k ∧ k < w.heap.size + 1 + 1) _ (w.heap.size + 1) (by omega) _ _ _ _

set_option maxRecDepth 100000 in
set_option maxHeartbeats 2000000 in
theorem do_slots3_calls (m : Nat) (M : MemF.Mem) (W : MW) (c : Int) (r cls n was : Int) (v : Value) (w : World) (h : MemX w m M W) (hM : MemF.MemOk M) (h0 : 0 ≤ c) (h1 : c < M.clients) (wsA : List Int) (hv : CellsR w v wsA.length (u64s wsA)) (hoff : ∀ k, v.ownBlock = some k → ¬ MF m W k) :
    Calls Try.prog 14 #[.pointer (some ⟨m, 0, none⟩), .int .i64 c, .agg #[.int .i64 3, .int .i64 r, .int .i64 cls, .int .i64 n, .int .u64 was, v]] w fun e w' => ResV w w' (M.slots ⟨3, r, cls, n, was, wsA⟩).2 e ∧ MemStep w m W w' (M.slots ⟨3, r, cls, n, was, wsA⟩).1 := by
  have hX := Lib.hid h
  have hB0 := wD_below w (.int .i64 3) (.int .i64 r) (.int .i64 cls) (.int .i64 n) (.int .u64 was) v
  have hXd : MemX (wD w (.int .i64 3) (.int .i64 r) (.int .i64 cls) (.int .i64 n) (.int .u64 was) v) m M W := h.upd (S := fun _ => False) (Upd.of_below' hB0) (fun _ _ h => h)
  have hcm := hXd.blk.cell
  have hcall := slots_calls m M W ⟨3, r, cls, n, was, wsA⟩ v _ hXd hM ⟨by show (1 : Int) ≤ 3; decide, by show (3 : Int) ≤ 5; decide⟩ (hv.grew hB0) hoff
  generalize (M.slots ⟨3, r, cls, n, was, wsA⟩) = res at hcall ⊢
  obtain ⟨M', er, x, ok, ws⟩ := res
  simp only at hcall ⊢
  replace hcall := hcall.mono (R' := fun e w1 => DoMidR w m W (wD w (.int .i64 3) (.int .i64 r) (.int .i64 cls) (.int .i64 n) (.int .u64 was) v) ⟨er, x, ok, ws⟩ M' e w1) (by
    rintro e w1 ⟨⟨v', rfl, hcr, hvo⟩, hs⟩
    obtain ⟨p, cp, rfl, -⟩ := id hcr
    exact ⟨p, _, cp, rfl, rfl, hcr, hvo, hs, wD_after hX.out hs.updE⟩)
  obtain ⟨C, hC⟩ : ∃ C, M.clients = C := ⟨_, rfl⟩
  rw [hC] at hcm h1
  have hsz := Lib.hid (wD_size w (.int .i64 3) (.int .i64 r) (.int .i64 cls) (.int .i64 n) (.int .u64 was) v)
  replace hB0 := Lib.hid hB0
  replace hXd := Lib.hid hXd
  replace hM := Lib.hid hM
  have hk := 0
  unfold accV at hcall
  simp only at hcall
  clear h hC hv hoff hk
  unfold wD at hcall hcm
  go_enter Try.func14, Try.ntmps14
  go_wp2_with fail
  refine hcall.mono ?_
  rintro e w1 ⟨p, N, cp, rfl, hN, hcr, hvo, hms, hb1⟩
  have k1 := hb1.cell
  have f1 := hb1.frozen
  replace hb1 := Lib.hid hb1
  clear hcm hcall
  go_wp2_with fail
  refine bodyPost_ret (v := .agg #[.int .i64 er, .int .i64 x, .bool ok, .slice p N cp]) (by simp [results, Try.results14, go_sem, k1]) rfl ?_
  have hvo' := hvo.out
  have hsz' := hsz.out
  unfold wD at hvo' hsz'
  rw [hsz'] at hvo'
  refine ⟨⟨_, rfl, ?_, fun k hk => by have := hvo' k hk; omega⟩, MemStep.wrap hX.out hB0.out hms.out ?_⟩
  · have hN := hN.out
    subst hN
    refine hcr.out.upd (S := fun k => k < w.heap.size + 1 + 1) (upd4 (S := fun k => k < w.heap.size + 1 + 1) _ (w.heap.size + 1) (by omega) _ _ _ _) fun k _ hk e => by have := hvo' k hk; omega
  · rw [hsz.out]
    exact upd4 (S := fun k => w.heap.size ≤ k ∧ k < w.heap.size + 1 + 1) _ (w.heap.size + 1) (by omega) _ _ _ _

set_option maxRecDepth 100000 in
set_option maxHeartbeats 2000000 in
theorem do_slots4_calls (m : Nat) (M : MemF.Mem) (W : MW) (c : Int) (r cls n was : Int) (v : Value) (w : World) (h : MemX w m M W) (hM : MemF.MemOk M) (h0 : 0 ≤ c) (h1 : c < M.clients) (wsA : List Int) (hv : CellsR w v wsA.length (u64s wsA)) (hoff : ∀ k, v.ownBlock = some k → ¬ MF m W k) :
    Calls Try.prog 14 #[.pointer (some ⟨m, 0, none⟩), .int .i64 c, .agg #[.int .i64 4, .int .i64 r, .int .i64 cls, .int .i64 n, .int .u64 was, v]] w fun e w' => ResV w w' (M.slots ⟨4, r, cls, n, was, wsA⟩).2 e ∧ MemStep w m W w' (M.slots ⟨4, r, cls, n, was, wsA⟩).1 := by
  have hX := Lib.hid h
  have hB0 := wD_below w (.int .i64 4) (.int .i64 r) (.int .i64 cls) (.int .i64 n) (.int .u64 was) v
  have hXd : MemX (wD w (.int .i64 4) (.int .i64 r) (.int .i64 cls) (.int .i64 n) (.int .u64 was) v) m M W := h.upd (S := fun _ => False) (Upd.of_below' hB0) (fun _ _ h => h)
  have hcm := hXd.blk.cell
  have hcall := slots_calls m M W ⟨4, r, cls, n, was, wsA⟩ v _ hXd hM ⟨by show (1 : Int) ≤ 4; decide, by show (4 : Int) ≤ 5; decide⟩ (hv.grew hB0) hoff
  generalize (M.slots ⟨4, r, cls, n, was, wsA⟩) = res at hcall ⊢
  obtain ⟨M', er, x, ok, ws⟩ := res
  simp only at hcall ⊢
  replace hcall := hcall.mono (R' := fun e w1 => DoMidR w m W (wD w (.int .i64 4) (.int .i64 r) (.int .i64 cls) (.int .i64 n) (.int .u64 was) v) ⟨er, x, ok, ws⟩ M' e w1) (by
    rintro e w1 ⟨⟨v', rfl, hcr, hvo⟩, hs⟩
    obtain ⟨p, cp, rfl, -⟩ := id hcr
    exact ⟨p, _, cp, rfl, rfl, hcr, hvo, hs, wD_after hX.out hs.updE⟩)
  obtain ⟨C, hC⟩ : ∃ C, M.clients = C := ⟨_, rfl⟩
  rw [hC] at hcm h1
  have hsz := Lib.hid (wD_size w (.int .i64 4) (.int .i64 r) (.int .i64 cls) (.int .i64 n) (.int .u64 was) v)
  replace hB0 := Lib.hid hB0
  replace hXd := Lib.hid hXd
  replace hM := Lib.hid hM
  have hk := 0
  unfold accV at hcall
  simp only at hcall
  clear h hC hv hoff hk
  unfold wD at hcall hcm
  go_enter Try.func14, Try.ntmps14
  go_wp2_with fail
  refine hcall.mono ?_
  rintro e w1 ⟨p, N, cp, rfl, hN, hcr, hvo, hms, hb1⟩
  have k1 := hb1.cell
  have f1 := hb1.frozen
  replace hb1 := Lib.hid hb1
  clear hcm hcall
  go_wp2_with fail
  refine bodyPost_ret (v := .agg #[.int .i64 er, .int .i64 x, .bool ok, .slice p N cp]) (by simp [results, Try.results14, go_sem, k1]) rfl ?_
  have hvo' := hvo.out
  have hsz' := hsz.out
  unfold wD at hvo' hsz'
  rw [hsz'] at hvo'
  refine ⟨⟨_, rfl, ?_, fun k hk => by have := hvo' k hk; omega⟩, MemStep.wrap hX.out hB0.out hms.out ?_⟩
  · have hN := hN.out
    subst hN
    refine hcr.out.upd (S := fun k => k < w.heap.size + 1 + 1) (upd4 (S := fun k => k < w.heap.size + 1 + 1) _ (w.heap.size + 1) (by omega) _ _ _ _) fun k _ hk e => by have := hvo' k hk; omega
  · rw [hsz.out]
    exact upd4 (S := fun k => w.heap.size ≤ k ∧ k < w.heap.size + 1 + 1) _ (w.heap.size + 1) (by omega) _ _ _ _

set_option maxRecDepth 100000 in
set_option maxHeartbeats 2000000 in
theorem do_slots5_calls (m : Nat) (M : MemF.Mem) (W : MW) (c : Int) (r cls n was : Int) (v : Value) (w : World) (h : MemX w m M W) (hM : MemF.MemOk M) (h0 : 0 ≤ c) (h1 : c < M.clients) (wsA : List Int) (hv : CellsR w v wsA.length (u64s wsA)) (hoff : ∀ k, v.ownBlock = some k → ¬ MF m W k) :
    Calls Try.prog 14 #[.pointer (some ⟨m, 0, none⟩), .int .i64 c, .agg #[.int .i64 5, .int .i64 r, .int .i64 cls, .int .i64 n, .int .u64 was, v]] w fun e w' => ResV w w' (M.slots ⟨5, r, cls, n, was, wsA⟩).2 e ∧ MemStep w m W w' (M.slots ⟨5, r, cls, n, was, wsA⟩).1 := by
  have hX := Lib.hid h
  have hB0 := wD_below w (.int .i64 5) (.int .i64 r) (.int .i64 cls) (.int .i64 n) (.int .u64 was) v
  have hXd : MemX (wD w (.int .i64 5) (.int .i64 r) (.int .i64 cls) (.int .i64 n) (.int .u64 was) v) m M W := h.upd (S := fun _ => False) (Upd.of_below' hB0) (fun _ _ h => h)
  have hcm := hXd.blk.cell
  have hcall := slots_calls m M W ⟨5, r, cls, n, was, wsA⟩ v _ hXd hM ⟨by show (1 : Int) ≤ 5; decide, by show (5 : Int) ≤ 5; decide⟩ (hv.grew hB0) hoff
  generalize (M.slots ⟨5, r, cls, n, was, wsA⟩) = res at hcall ⊢
  obtain ⟨M', er, x, ok, ws⟩ := res
  simp only at hcall ⊢
  replace hcall := hcall.mono (R' := fun e w1 => DoMidR w m W (wD w (.int .i64 5) (.int .i64 r) (.int .i64 cls) (.int .i64 n) (.int .u64 was) v) ⟨er, x, ok, ws⟩ M' e w1) (by
    rintro e w1 ⟨⟨v', rfl, hcr, hvo⟩, hs⟩
    obtain ⟨p, cp, rfl, -⟩ := id hcr
    exact ⟨p, _, cp, rfl, rfl, hcr, hvo, hs, wD_after hX.out hs.updE⟩)
  obtain ⟨C, hC⟩ : ∃ C, M.clients = C := ⟨_, rfl⟩
  rw [hC] at hcm h1
  have hsz := Lib.hid (wD_size w (.int .i64 5) (.int .i64 r) (.int .i64 cls) (.int .i64 n) (.int .u64 was) v)
  replace hB0 := Lib.hid hB0
  replace hXd := Lib.hid hXd
  replace hM := Lib.hid hM
  have hk := 0
  unfold accV at hcall
  simp only at hcall
  clear h hC hv hoff hk
  unfold wD at hcall hcm
  go_enter Try.func14, Try.ntmps14
  go_wp2_with fail
  refine hcall.mono ?_
  rintro e w1 ⟨p, N, cp, rfl, hN, hcr, hvo, hms, hb1⟩
  have k1 := hb1.cell
  have f1 := hb1.frozen
  replace hb1 := Lib.hid hb1
  clear hcm hcall
  go_wp2_with fail
  refine bodyPost_ret (v := .agg #[.int .i64 er, .int .i64 x, .bool ok, .slice p N cp]) (by simp [results, Try.results14, go_sem, k1]) rfl ?_
  have hvo' := hvo.out
  have hsz' := hsz.out
  unfold wD at hvo' hsz'
  rw [hsz'] at hvo'
  refine ⟨⟨_, rfl, ?_, fun k hk => by have := hvo' k hk; omega⟩, MemStep.wrap hX.out hB0.out hms.out ?_⟩
  · have hN := hN.out
    subst hN
    refine hcr.out.upd (S := fun k => k < w.heap.size + 1 + 1) (upd4 (S := fun k => k < w.heap.size + 1 + 1) _ (w.heap.size + 1) (by omega) _ _ _ _) fun k _ hk e => by have := hvo' k hk; omega
  · rw [hsz.out]
    exact upd4 (S := fun k => w.heap.size ≤ k ∧ k < w.heap.size + 1 + 1) _ (w.heap.size + 1) (by omega) _ _ _ _

set_option maxRecDepth 100000 in
set_option maxHeartbeats 2000000 in
theorem do_collect_calls (m : Nat) (M : MemF.Mem) (W : MW) (c : Int) (r cls n was : Int) (v : Value) (w : World) (h : MemX w m M W) (hM : MemF.MemOk M) (h0 : 0 ≤ c) (h1 : c < M.clients) :
    Calls Try.prog 14 #[.pointer (some ⟨m, 0, none⟩), .int .i64 c, .agg #[.int .i64 12, .int .i64 r, .int .i64 cls, .int .i64 n, .int .u64 was, v]] w fun e w' => ResV w w' (M.collect c).2 e ∧ MemStep w m W w' (M.collect c).1 := by
  have hX := Lib.hid h
  have hB0 := wD_below w (.int .i64 12) (.int .i64 r) (.int .i64 cls) (.int .i64 n) (.int .u64 was) v
  have hXd : MemX (wD w (.int .i64 12) (.int .i64 r) (.int .i64 cls) (.int .i64 n) (.int .u64 was) v) m M W := h.upd (S := fun _ => False) (Upd.of_below' hB0) (fun _ _ h => h)
  have hcm := hXd.blk.cell
  have hcall := memcollect_calls m M W c _ hXd hM
  generalize (M.collect c) = res at hcall ⊢
  obtain ⟨M', er, x, ok, ws⟩ := res
  simp only at hcall ⊢
  replace hcall := hcall.mono (R' := fun e w1 => DoMidR w m W (wD w (.int .i64 12) (.int .i64 r) (.int .i64 cls) (.int .i64 n) (.int .u64 was) v) ⟨er, x, ok, ws⟩ M' e w1) (by
    rintro e w1 ⟨⟨v', rfl, hcr, hvo⟩, hs⟩
    obtain ⟨p, cp, rfl, -⟩ := id hcr
    exact ⟨p, _, cp, rfl, rfl, hcr, hvo, hs, wD_after hX.out hs.updE⟩)
  obtain ⟨C, hC⟩ : ∃ C, M.clients = C := ⟨_, rfl⟩
  rw [hC] at hcm h1
  have hsz := Lib.hid (wD_size w (.int .i64 12) (.int .i64 r) (.int .i64 cls) (.int .i64 n) (.int .u64 was) v)
  replace hB0 := Lib.hid hB0
  replace hXd := Lib.hid hXd
  replace hM := Lib.hid hM
  clear h hC
  unfold wD at hcall hcm
  go_enter Try.func14, Try.ntmps14
  go_wp2_with fail
  refine hcall.mono ?_
  rintro e w1 ⟨p, N, cp, rfl, hN, hcr, hvo, hms, hb1⟩
  have k1 := hb1.cell
  have f1 := hb1.frozen
  replace hb1 := Lib.hid hb1
  clear hcm hcall
  go_wp2_with fail
  refine bodyPost_ret (v := .agg #[.int .i64 er, .int .i64 x, .bool ok, .slice p N cp]) (by simp [results, Try.results14, go_sem, k1]) rfl ?_
  have hvo' := hvo.out
  have hsz' := hsz.out
  unfold wD at hvo' hsz'
  rw [hsz'] at hvo'
  refine ⟨⟨_, rfl, ?_, fun k hk => by have := hvo' k hk; omega⟩, MemStep.wrap hX.out hB0.out hms.out ?_⟩
  · have hN := hN.out
    subst hN
    refine hcr.out.upd (S := fun k => k < w.heap.size + 1 + 1) (upd4 (S := fun k => k < w.heap.size + 1 + 1) _ (w.heap.size + 1) (by omega) _ _ _ _) fun k _ hk e => by have := hvo' k hk; omega
  · rw [hsz.out]
    exact upd4 (S := fun k => w.heap.size ≤ k ∧ k < w.heap.size + 1 + 1) _ (w.heap.size + 1) (by omega) _ _ _ _

set_option maxRecDepth 100000 in
set_option maxHeartbeats 2000000 in
theorem do_turn13_calls (m : Nat) (M : MemF.Mem) (W : MW) (c : Int) (r cls n was : Int) (v : Value) (w : World) (h : MemX w m M W) (hM : MemF.MemOk M) (h0 : 0 ≤ c) (h1 : c < M.clients) :
    Calls Try.prog 14 #[.pointer (some ⟨m, 0, none⟩), .int .i64 c, .agg #[.int .i64 13, .int .i64 r, .int .i64 cls, .int .i64 n, .int .u64 was, v]] w fun e w' => ResV w w' (M.turn c 13).2 e ∧ MemStep w m W w' (M.turn c 13).1 := by
  have hX := Lib.hid h
  have hB0 := wD_below w (.int .i64 13) (.int .i64 r) (.int .i64 cls) (.int .i64 n) (.int .u64 was) v
  have hXd : MemX (wD w (.int .i64 13) (.int .i64 r) (.int .i64 cls) (.int .i64 n) (.int .u64 was) v) m M W := h.upd (S := fun _ => False) (Upd.of_below' hB0) (fun _ _ h => h)
  have hcm := hXd.blk.cell
  have hcall := turn_calls m M W c 13 _ hXd
  generalize (M.turn c 13) = res at hcall ⊢
  obtain ⟨M', er, x, ok, ws⟩ := res
  simp only at hcall ⊢
  replace hcall := hcall.mono (R' := fun e w1 => DoMidR w m W (wD w (.int .i64 13) (.int .i64 r) (.int .i64 cls) (.int .i64 n) (.int .u64 was) v) ⟨er, x, ok, ws⟩ M' e w1) (by
    rintro e w1 ⟨⟨v', rfl, hcr, hvo⟩, hs⟩
    obtain ⟨p, cp, rfl, -⟩ := id hcr
    exact ⟨p, _, cp, rfl, rfl, hcr, hvo, hs, wD_after hX.out hs.updE⟩)
  obtain ⟨C, hC⟩ : ∃ C, M.clients = C := ⟨_, rfl⟩
  rw [hC] at hcm h1
  have hsz := Lib.hid (wD_size w (.int .i64 13) (.int .i64 r) (.int .i64 cls) (.int .i64 n) (.int .u64 was) v)
  replace hB0 := Lib.hid hB0
  replace hXd := Lib.hid hXd
  replace hM := Lib.hid hM
  clear h hC
  unfold wD at hcall hcm
  go_enter Try.func14, Try.ntmps14
  go_wp2_with fail
  refine hcall.mono ?_
  rintro e w1 ⟨p, N, cp, rfl, hN, hcr, hvo, hms, hb1⟩
  have k1 := hb1.cell
  have f1 := hb1.frozen
  replace hb1 := Lib.hid hb1
  clear hcm hcall
  go_wp2_with fail
  refine bodyPost_ret (v := .agg #[.int .i64 er, .int .i64 x, .bool ok, .slice p N cp]) (by simp [results, Try.results14, go_sem, k1]) rfl ?_
  have hvo' := hvo.out
  have hsz' := hsz.out
  unfold wD at hvo' hsz'
  rw [hsz'] at hvo'
  refine ⟨⟨_, rfl, ?_, fun k hk => by have := hvo' k hk; omega⟩, MemStep.wrap hX.out hB0.out hms.out ?_⟩
  · have hN := hN.out
    subst hN
    refine hcr.out.upd (S := fun k => k < w.heap.size + 1 + 1) (upd4 (S := fun k => k < w.heap.size + 1 + 1) _ (w.heap.size + 1) (by omega) _ _ _ _) fun k _ hk e => by have := hvo' k hk; omega
  · rw [hsz.out]
    exact upd4 (S := fun k => w.heap.size ≤ k ∧ k < w.heap.size + 1 + 1) _ (w.heap.size + 1) (by omega) _ _ _ _

set_option maxRecDepth 100000 in
set_option maxHeartbeats 2000000 in
theorem do_turn14_calls (m : Nat) (M : MemF.Mem) (W : MW) (c : Int) (r cls n was : Int) (v : Value) (w : World) (h : MemX w m M W) (hM : MemF.MemOk M) (h0 : 0 ≤ c) (h1 : c < M.clients) :
    Calls Try.prog 14 #[.pointer (some ⟨m, 0, none⟩), .int .i64 c, .agg #[.int .i64 14, .int .i64 r, .int .i64 cls, .int .i64 n, .int .u64 was, v]] w fun e w' => ResV w w' (M.turn c 14).2 e ∧ MemStep w m W w' (M.turn c 14).1 := by
  have hX := Lib.hid h
  have hB0 := wD_below w (.int .i64 14) (.int .i64 r) (.int .i64 cls) (.int .i64 n) (.int .u64 was) v
  have hXd : MemX (wD w (.int .i64 14) (.int .i64 r) (.int .i64 cls) (.int .i64 n) (.int .u64 was) v) m M W := h.upd (S := fun _ => False) (Upd.of_below' hB0) (fun _ _ h => h)
  have hcm := hXd.blk.cell
  have hcall := turn_calls m M W c 14 _ hXd
  generalize (M.turn c 14) = res at hcall ⊢
  obtain ⟨M', er, x, ok, ws⟩ := res
  simp only at hcall ⊢
  replace hcall := hcall.mono (R' := fun e w1 => DoMidR w m W (wD w (.int .i64 14) (.int .i64 r) (.int .i64 cls) (.int .i64 n) (.int .u64 was) v) ⟨er, x, ok, ws⟩ M' e w1) (by
    rintro e w1 ⟨⟨v', rfl, hcr, hvo⟩, hs⟩
    obtain ⟨p, cp, rfl, -⟩ := id hcr
    exact ⟨p, _, cp, rfl, rfl, hcr, hvo, hs, wD_after hX.out hs.updE⟩)
  obtain ⟨C, hC⟩ : ∃ C, M.clients = C := ⟨_, rfl⟩
  rw [hC] at hcm h1
  have hsz := Lib.hid (wD_size w (.int .i64 14) (.int .i64 r) (.int .i64 cls) (.int .i64 n) (.int .u64 was) v)
  replace hB0 := Lib.hid hB0
  replace hXd := Lib.hid hXd
  replace hM := Lib.hid hM
  clear h hC
  unfold wD at hcall hcm
  go_enter Try.func14, Try.ntmps14
  go_wp2_with fail
  refine hcall.mono ?_
  rintro e w1 ⟨p, N, cp, rfl, hN, hcr, hvo, hms, hb1⟩
  have k1 := hb1.cell
  have f1 := hb1.frozen
  replace hb1 := Lib.hid hb1
  clear hcm hcall
  go_wp2_with fail
  refine bodyPost_ret (v := .agg #[.int .i64 er, .int .i64 x, .bool ok, .slice p N cp]) (by simp [results, Try.results14, go_sem, k1]) rfl ?_
  have hvo' := hvo.out
  have hsz' := hsz.out
  unfold wD at hvo' hsz'
  rw [hsz'] at hvo'
  refine ⟨⟨_, rfl, ?_, fun k hk => by have := hvo' k hk; omega⟩, MemStep.wrap hX.out hB0.out hms.out ?_⟩
  · have hN := hN.out
    subst hN
    refine hcr.out.upd (S := fun k => k < w.heap.size + 1 + 1) (upd4 (S := fun k => k < w.heap.size + 1 + 1) _ (w.heap.size + 1) (by omega) _ _ _ _) fun k _ hk e => by have := hvo' k hk; omega
  · rw [hsz.out]
    exact upd4 (S := fun k => w.heap.size ≤ k ∧ k < w.heap.size + 1 + 1) _ (w.heap.size + 1) (by omega) _ _ _ _

set_option maxRecDepth 100000 in
set_option maxHeartbeats 2000000 in
theorem do_turn15_calls (m : Nat) (M : MemF.Mem) (W : MW) (c : Int) (r cls n was : Int) (v : Value) (w : World) (h : MemX w m M W) (hM : MemF.MemOk M) (h0 : 0 ≤ c) (h1 : c < M.clients) :
    Calls Try.prog 14 #[.pointer (some ⟨m, 0, none⟩), .int .i64 c, .agg #[.int .i64 15, .int .i64 r, .int .i64 cls, .int .i64 n, .int .u64 was, v]] w fun e w' => ResV w w' (M.turn c 15).2 e ∧ MemStep w m W w' (M.turn c 15).1 := by
  have hX := Lib.hid h
  have hB0 := wD_below w (.int .i64 15) (.int .i64 r) (.int .i64 cls) (.int .i64 n) (.int .u64 was) v
  have hXd : MemX (wD w (.int .i64 15) (.int .i64 r) (.int .i64 cls) (.int .i64 n) (.int .u64 was) v) m M W := h.upd (S := fun _ => False) (Upd.of_below' hB0) (fun _ _ h => h)
  have hcm := hXd.blk.cell
  have hcall := turn_calls m M W c 15 _ hXd
  generalize (M.turn c 15) = res at hcall ⊢
  obtain ⟨M', er, x, ok, ws⟩ := res
  simp only at hcall ⊢
  replace hcall := hcall.mono (R' := fun e w1 => DoMidR w m W (wD w (.int .i64 15) (.int .i64 r) (.int .i64 cls) (.int .i64 n) (.int .u64 was) v) ⟨er, x, ok, ws⟩ M' e w1) (by
    rintro e w1 ⟨⟨v', rfl, hcr, hvo⟩, hs⟩
    obtain ⟨p, cp, rfl, -⟩ := id hcr
    exact ⟨p, _, cp, rfl, rfl, hcr, hvo, hs, wD_after hX.out hs.updE⟩)
  obtain ⟨C, hC⟩ : ∃ C, M.clients = C := ⟨_, rfl⟩
  rw [hC] at hcm h1
  have hsz := Lib.hid (wD_size w (.int .i64 15) (.int .i64 r) (.int .i64 cls) (.int .i64 n) (.int .u64 was) v)
  replace hB0 := Lib.hid hB0
  replace hXd := Lib.hid hXd
  replace hM := Lib.hid hM
  clear h hC
  unfold wD at hcall hcm
  go_enter Try.func14, Try.ntmps14
  go_wp2_with fail
  refine hcall.mono ?_
  rintro e w1 ⟨p, N, cp, rfl, hN, hcr, hvo, hms, hb1⟩
  have k1 := hb1.cell
  have f1 := hb1.frozen
  replace hb1 := Lib.hid hb1
  clear hcm hcall
  go_wp2_with fail
  refine bodyPost_ret (v := .agg #[.int .i64 er, .int .i64 x, .bool ok, .slice p N cp]) (by simp [results, Try.results14, go_sem, k1]) rfl ?_
  have hvo' := hvo.out
  have hsz' := hsz.out
  unfold wD at hvo' hsz'
  rw [hsz'] at hvo'
  refine ⟨⟨_, rfl, ?_, fun k hk => by have := hvo' k hk; omega⟩, MemStep.wrap hX.out hB0.out hms.out ?_⟩
  · have hN := hN.out
    subst hN
    refine hcr.out.upd (S := fun k => k < w.heap.size + 1 + 1) (upd4 (S := fun k => k < w.heap.size + 1 + 1) _ (w.heap.size + 1) (by omega) _ _ _ _) fun k _ hk e => by have := hvo' k hk; omega
  · rw [hsz.out]
    exact upd4 (S := fun k => w.heap.size ≤ k ∧ k < w.heap.size + 1 + 1) _ (w.heap.size + 1) (by omega) _ _ _ _

/-- Do, as one. -/
theorem do_calls (m : Nat) (M : MemF.Mem) (W : MW) (c : Int) (a : MemF.Acc) (v : Value) (w : World) (h : MemX w m M W) (hM : MemF.MemOk M) (hv : CellsR w v a.words.length (u64s a.words)) (hoff : ∀ k, v.ownBlock = some k → ¬ MF m W k) :
    Calls Try.prog 14 #[.pointer (some ⟨m, 0, none⟩), .int .i64 c, accV a v] w fun e w' => ResV w w' (M.do_ c a).2 e ∧ MemStep w m W w' (M.do_ c a).1 := by
  obtain ⟨k, r, cls, n, was, ws⟩ := a
  simp only at hv
  unfold accV MemF.Mem.do_
  simp only
  by_cases hc : c < 0 ∨ M.clients ≤ c
  · rw [if_pos hc]
    exact do_client_calls m M W c k r cls n was v w h hc
  rw [if_neg hc]
  have h0 : 0 ≤ c := by omega
  have h1 : c < M.clients := by omega
  by_cases hk : k < 1 ∨ 15 < k
  · rw [if_neg (by omega), if_neg (by omega), if_neg (by omega), if_neg (by omega), if_neg (by omega), if_neg (by omega), if_neg (by omega), if_neg (by omega), if_neg (by omega)]
    exact do_other_calls m M W c k r cls n was v w h h0 h1 hk
  have hk15 : k = 1 ∨ k = 2 ∨ k = 3 ∨ k = 4 ∨ k = 5 ∨ k = 6 ∨ k = 7 ∨ k = 8 ∨ k = 9 ∨ k = 10 ∨ k = 11 ∨ k = 12 ∨ k = 13 ∨ k = 14 ∨ k = 15 := by omega
  rcases hk15 with rfl | rfl | rfl | rfl | rfl | rfl | rfl | rfl | rfl | rfl | rfl | rfl | rfl | rfl | rfl
  · rw [if_pos (by decide)]
    exact do_slots1_calls m M W c r cls n was v w h hM h0 h1 ws hv hoff
  · rw [if_pos (by decide)]
    exact do_slots2_calls m M W c r cls n was v w h hM h0 h1 ws hv hoff
  · rw [if_pos (by decide)]
    exact do_slots3_calls m M W c r cls n was v w h hM h0 h1 ws hv hoff
  · rw [if_pos (by decide)]
    exact do_slots4_calls m M W c r cls n was v w h hM h0 h1 ws hv hoff
  · rw [if_pos (by decide)]
    exact do_slots5_calls m M W c r cls n was v w h hM h0 h1 ws hv hoff
  · rw [if_neg (by decide), if_pos rfl]
    by_cases hr : r = M.root
    · rw [if_pos hr]
      exact do_root_calls m M W c r cls n was v w h h0 h1 hr
    · rw [if_neg hr]
      exact do_retire_calls m M W c r cls n was v w h hM h0 h1 hr
  · rw [if_neg (by decide), if_neg (by decide), if_pos rfl]
    exact do_epoch_calls m M W c r cls n was v w h hM h0 h1
  · rw [if_neg (by decide), if_neg (by decide), if_neg (by decide), if_pos rfl]
    exact do_pin_calls m M W c r cls n was v w h hM h0 h1
  · rw [if_neg (by decide), if_neg (by decide), if_neg (by decide), if_neg (by decide), if_pos rfl]
    exact do_unpin_calls m M W c r cls n was v w h hM h0 h1
  · rw [if_neg (by decide), if_neg (by decide), if_neg (by decide), if_neg (by decide), if_neg (by decide), if_pos rfl]
    exact do_pinof_calls m M W c r cls n was v w h hM h0 h1
  · rw [if_neg (by decide), if_neg (by decide), if_neg (by decide), if_neg (by decide), if_neg (by decide), if_neg (by decide), if_pos rfl]
    exact do_advance_calls m M W c r cls n was v w h hM h0 h1
  · rw [if_neg (by decide), if_neg (by decide), if_neg (by decide), if_neg (by decide), if_neg (by decide), if_neg (by decide), if_neg (by decide), if_pos rfl]
    exact do_collect_calls m M W c r cls n was v w h hM h0 h1
  · rw [if_neg (by decide), if_neg (by decide), if_neg (by decide), if_neg (by decide), if_neg (by decide), if_neg (by decide), if_neg (by decide), if_neg (by decide), if_pos (by decide)]
    exact do_turn13_calls m M W c r cls n was v w h hM h0 h1
  · rw [if_neg (by decide), if_neg (by decide), if_neg (by decide), if_neg (by decide), if_neg (by decide), if_neg (by decide), if_neg (by decide), if_neg (by decide), if_pos (by decide)]
    exact do_turn14_calls m M W c r cls n was v w h hM h0 h1
  · rw [if_neg (by decide), if_neg (by decide), if_neg (by decide), if_neg (by decide), if_neg (by decide), if_neg (by decide), if_neg (by decide), if_neg (by decide), if_pos (by decide)]
    exact do_turn15_calls m M W c r cls n was v w h hM h0 h1
end Go.Proofs.Ytpobpijjpbggoaa
