/- package mem: slots at a slot that is freed; slots as one. -/
import Derived.Test.YtpobpijjpbggoaaMem2
set_option linter.unusedSimpArgs false
set_option linter.unusedVariables false
namespace Go.Proofs.Ytpobpijjpbggoaa
open Go.RowKit Go.Ten

set_option maxRecDepth 100000 in
set_option maxHeartbeats 1000000 in
theorem slots_root_calls (m : Nat) (M : MemF.Mem) (W : MW) (r cls n was : Int) (v : Value) (w : World) (h : MemX w m M W) (hr : r = M.root) :
    Calls Try.prog 38 #[.pointer (some ⟨m, 0, none⟩), .agg #[.int .i64 5, .int .i64 r, .int .i64 cls, .int .i64 n, .int .u64 was, v]] w fun e w' => ResV w w' { err := 1 } e ∧ MemStep w m W w' M := by
  have hB0 := wS_below w (.int .i64 5) (.int .i64 r) (.int .i64 cls) (.int .i64 n) (.int .u64 was) v
  have hX0 : MemX (wS w (.int .i64 5) (.int .i64 r) (.int .i64 cls) (.int .i64 n) (.int .u64 was) v).drew m M W := h.upd (S := fun _ => False) ((Upd.of_below' hB0).drew) (fun _ _ h => h)
  have hlt := h.blk.lt
  have hX := Lib.hid h
  have hcm := hX0.blk.cell
  have hsz := wS_size' w (.int .i64 5) (.int .i64 r) (.int .i64 cls) (.int .i64 n) (.int .u64 was) v
  have ha := wS_after hX.out (Upd.refl (MF m W) (wS w (.int .i64 5) (.int .i64 r) (.int .i64 cls) (.int .i64 n) (.int .u64 was) v).drew)
  have k1 := ha.2.1.cell
  have k2 := ha.2.2.cell
  have f1 := ha.2.1.frozen
  have f2 := ha.2.2.frozen
  have hms := (MemStep.same hX0)
  replace hms := Lib.hid hms
  replace hX0 := Lib.hid hX0
  replace hB0 := Lib.hid hB0
  replace hsz := Lib.hid hsz
  replace ha := Lib.hid ha
  rw [← hr] at hcm
  have hrr : (r == r) = true := by simp
  clear h hr
  unfold wS at hcm k1 k2 f1 f2
  go_enter Try.func38, Try.ntmps38
  go_wp2_with fail
  refine undraw ?hB1 ?_
  case hB1 => kernel_rfl
  intro K1 hK1
  simp only [Undraw.withAsks, Undraw.asksOf, Undraw.intsOf, Undraw.strsOf, List.contains, List.elem, Nat.reduceBEq, if_true, List.map_nil, List.map_cons, List.nil_append, List.append_nil, List.cons_append]
  go_wp2_with fail
  refine bodyPost_ret (v := .agg #[.int .i64 1, .int .i64 0, .bool false, .slice none 0 0]) (by simp [results, Try.results38, go_sem, k1]) rfl ?_
  exact ⟨⟨_, rfl, CellsR.nil _, fun k hk => by simp [Value.ownBlock] at hk⟩, ((((MemStep.same hX.out).alloc _).alloc _).alloc _).drew⟩

set_option maxRecDepth 100000 in
set_option maxHeartbeats 1000000 in
theorem slots_free_calls (m : Nat) (M : MemF.Mem) (W : MW) (r cls n was : Int) (v : Value) (w : World) (h : MemX w m M W) (hM : MemF.MemOk M) (hr : r ≠ M.root) :
    Calls Try.prog 38 #[.pointer (some ⟨m, 0, none⟩), .agg #[.int .i64 5, .int .i64 r, .int .i64 cls, .int .i64 n, .int .u64 was, v]] w fun e w' => ResV w w' { err := (M.ar.freeSlot r).2 } e ∧ MemStep w m W w' { M with ar := (M.ar.freeSlot r).1 } := by
  have hB0 := wS_below w (.int .i64 5) (.int .i64 r) (.int .i64 cls) (.int .i64 n) (.int .u64 was) v
  have hX0 : MemX (wS w (.int .i64 5) (.int .i64 r) (.int .i64 cls) (.int .i64 n) (.int .u64 was) v).drew m M W := h.upd (S := fun _ => False) ((Upd.of_below' hB0).drew) (fun _ _ h => h)
  have hXd : MemX (wS w (.int .i64 5) (.int .i64 r) (.int .i64 cls) (.int .i64 n) (.int .u64 was) v).drew.drew m M W := hX0.upd (S := fun _ => False) ((Upd.refl _ _).drew) (fun _ _ h => h)
  have hcall := free_calls W.a M.ar W.X r _ hXd.ar hM.ar
  have hlt := h.blk.lt
  have hX := Lib.hid h
  obtain ⟨A', er, hA⟩ : ∃ A' er, M.ar.freeSlot r = (A', er) := ⟨_, _, rfl⟩
  rw [hA] at hcall ⊢
  simp only at hcall ⊢
  clear hA
  have hcm := hX0.blk.cell
  have hsz := wS_size' w (.int .i64 5) (.int .i64 r) (.int .i64 cls) (.int .i64 n) (.int .u64 was) v
  replace hX0 := Lib.hid hX0
  replace hXd := Lib.hid hXd
  replace hB0 := Lib.hid hB0
  replace hsz := Lib.hid hsz
  obtain ⟨R, hR⟩ : ∃ R, M.root = R := ⟨_, rfl⟩
  rw [hR] at hcm hr
  have hrr : (r == R) = false := by simpa using hr
  replace hcall := hcall.mono (R' := fun e w1 => e = .returned (.int .i64 er) ∧ Hid (MemStep (wS w (.int .i64 5) (.int .i64 r) (.int .i64 cls) (.int .i64 n) (.int .u64 was) v).drew.drew m W w1 { M with ar := A' }) ∧
      Blk w1 (w.heap.size + 1) [.int .i64 0, .int .i64 0, .bool false, .slice none 0 0] 44 ∧ Blk w1 (w.heap.size + 1 + 1) [.int .i64 0, .int .i64 0, .bool false, .slice none 0 0] 44) (by
    rintro e w1 ⟨rfl, hst⟩
    have hs := MemStep.ofAr hXd.out hst
    have ha := hs.choose_spec.2.2
    have ha := wS_after hX.out (((Upd.refl (MF m W) (wS w (.int .i64 5) (.int .i64 r) (.int .i64 cls) (.int .i64 n) (.int .u64 was) v).drew).drew).trans ha fun _ _ h => h)
    exact ⟨rfl, hs, ha.2.1, ha.2.2⟩)
  clear h hr hR
  unfold wS at hcall hcm
  go_enter Try.func38, Try.ntmps38
  go_wp2_with fail
  refine undraw ?hB1 ?_
  case hB1 => kernel_rfl
  intro K1 hK1
  simp only [Undraw.withAsks, Undraw.asksOf, Undraw.intsOf, Undraw.strsOf, List.contains, List.elem, Nat.reduceBEq, if_true, List.map_nil, List.map_cons, List.nil_append, List.append_nil, List.cons_append]
  go_wp2_with fail
  refine undraw ?hB2 ?_
  case hB2 => kernel_rfl
  intro K2 hK2
  simp only [Undraw.withAsks, Undraw.asksOf, Undraw.intsOf, Undraw.strsOf, List.contains, List.elem, Nat.reduceBEq, if_true, List.map_nil, List.map_cons, List.nil_append, List.append_nil, List.cons_append]
  go_wp2_with fail
  refine hcall.mono ?_
  rintro e w1 ⟨rfl, hms, hb1, hb2⟩
  have k1 := hb1.cell
  have k2 := hb2.cell
  have f1 := hb1.frozen
  have f2 := hb2.frozen
  replace hb1 := Lib.hid hb1
  replace hb2 := Lib.hid hb2
  clear hcm hcall
  go_wp2_with fail
  refine bodyPost_ret (v := .agg #[.int .i64 er, .int .i64 0, .bool false, .slice none 0 0]) (by simp [results, Try.results38, go_sem, k1]) rfl ?_
  refine ⟨⟨_, rfl, CellsR.nil _, fun k hk => by simp [Value.ownBlock] at hk⟩, MemStep.wrap hX.out hB0.out (MemStep.undrew (MemStep.undrew hms.out)) ?_⟩
  have hs1 := wS_size w (.int .i64 5) (.int .i64 r) (.int .i64 cls) (.int .i64 n) (.int .u64 was) v
  rw [hs1]
  exact upd_ofHead (upd4 (S := fun k => w.heap.size ≤ k ∧ k < w.heap.size + 1 + 1 + 1) _ (w.heap.size + 1) (by omega) _ _ _ _) ((Upd.refl _ w1).setCell (p := ⟨w.heap.size + 1 + 1, 0, none⟩) (.inl (by show w.heap.size ≤ w.heap.size + 1 + 1 ∧ w.heap.size + 1 + 1 < _; omega)) _)

/-- slots, as one. -/
theorem slots_calls (m : Nat) (M : MemF.Mem) (W : MW) (a : MemF.Acc) (v : Value) (w : World) (h : MemX w m M W) (hM : MemF.MemOk M) (hk : 1 ≤ a.kind ∧ a.kind ≤ 5) (hv : CellsR w v a.words.length (u64s a.words)) (hoff : ∀ k, v.ownBlock = some k → ¬ MF m W k) :
    Calls Try.prog 38 #[.pointer (some ⟨m, 0, none⟩), accV a v] w fun e w' => ResV w w' (M.slots a).2 e ∧ MemStep w m W w' (M.slots a).1 := by
  obtain ⟨kind, r, cls, n, was, ws⟩ := a
  simp only at hk hv
  obtain ⟨vp, vc, rfl, -⟩ := id hv
  unfold accV MemF.Mem.slots
  simp only
  have hk5 : kind = 1 ∨ kind = 2 ∨ kind = 3 ∨ kind = 4 ∨ kind = 5 := by omega
  rcases hk5 with rfl | rfl | rfl | rfl | rfl
  · rw [if_pos rfl]
    exact slots_load_calls m M W r cls n was _ w h
  · rw [if_neg (by decide), if_pos rfl]
    exact slots_swap_calls m M W r cls n was vp _ vc ws w h hM hv hoff
  · rw [if_neg (by decide), if_neg (by decide), if_pos rfl]
    exact slots_store_calls m M W r cls n was vp _ vc ws w h hM hv hoff
  · rw [if_neg (by decide), if_neg (by decide), if_neg (by decide), if_pos rfl]
    exact slots_alloc_calls m M W r cls n was vp _ vc ws w h hM hv hoff
  · rw [if_neg (by decide), if_neg (by decide), if_neg (by decide), if_neg (by decide), if_pos rfl]
    by_cases hr : r = M.root
    · rw [if_pos hr]
      exact slots_root_calls m M W r cls n was _ w h hr
    · rw [if_neg hr]
      exact slots_free_calls m M W r cls n was _ w h hM hr
end Go.Proofs.Ytpobpijjpbggoaa
