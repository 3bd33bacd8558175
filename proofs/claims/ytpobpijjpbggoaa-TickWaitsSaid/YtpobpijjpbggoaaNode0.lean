/- package node: the words of the empty root. -/
import Derived.Test.YtpobpijjpbggoaaArena5
import Derived.Deep.QuietTactic
import Derived.BigQuiet
set_option linter.unusedSimpArgs false
set_option linter.unusedVariables false
namespace Go.Proofs.Ytpobpijjpbggoaa
open Go.RowKit Go.Ten

set_option maxRecDepth 100000 in
set_option maxHeartbeats 400000 in
theorem high4_calls (w : World) : Calls Try.prog 95 #[.int .i64 4] w fun e w' => e = .returned (.int .i64 256) ∧ w = w' := by
  go_enter Try.func95, Try.ntmps95
  go_wp2
  go_ret
  exact ⟨rfl, rfl⟩
set_option maxRecDepth 100000 in
set_option maxHeartbeats 400000 in
theorem count0_calls (w : World) : Calls Try.prog 98 #[.int .i64 0] w fun e w' => e = .returned (.int .i64 0) ∧ w = w' := by
  go_enter Try.func98, Try.ntmps98
  go_wp2
  go_ret
  exact ⟨rfl, rfl⟩
set_option maxRecDepth 100000 in
set_option maxHeartbeats 400000 in
theorem words0_calls (w : World) : Calls Try.prog 70 #[.string ⟨#[]⟩] w fun e w' => e = .returned (.slice (some ⟨w.heap.size, 0, none⟩) 0 0) ∧ w.alloc (.cells #[] 36) = w' := by
  have hmk := make_u64 0 (by omega)
  simp only [Int.natCast_zero, List.replicate_zero] at hmk
  have hc := count0_calls
  go_enter Try.func70, Try.ntmps70
  go_wp2_with fail
  refine (hc _).mono ?_
  rintro e w' ⟨rfl, rfl⟩
  go_wp2_with fail
  go_loopw [11] (fun v wr => v = .int .i64 0 ∧ w.alloc (.cells #[] 36) = wr) (fun _ _ => 0)
  case atStart => exact ⟨rfl, rfl⟩
  case round =>
    obtain ⟨rfl, rfl⟩ := hrel
    go_wp2_with fail
    go_ret
    exact ⟨rfl, rfl⟩
set_option maxRecDepth 100000 in
set_option maxHeartbeats 400000 in
theorem dead0_calls (w : World) : Calls Try.prog 96 #[.int .u64 0] w fun e w' => e = .returned (.bool false) ∧ w = w' := by
  have h : bits .and .u64 0 2 = 0 := by decide
  go_enter Try.func96, Try.ntmps96
  go_wp2
  go_ret
  exact ⟨rfl, rfl⟩
theorem quietW {P : Program} {f : FuncId} {args : Array Value} {w : World} {n : Nat} {v : Value} (h : Calls P f args (w.drewN n) fun e w' => e = .returned v ∧ w.drewN n = w') : Calls P f args (w.drewN n) fun e w'' => e = .returned v ∧ ∃ m, w'' = w.drewN m :=
  h.mono fun _ _ ⟨he, hm⟩ => ⟨he, n, hm.symm⟩
def node0 : Value := .agg #[.int .i64 4, .int .u64 0, .string ⟨#[]⟩, .slice none 0 0, .slice none 0 0]
set_option maxRecDepth 100000 in
set_option maxHeartbeats 400000 in
theorem right0_calls (w : World) : Calls Try.prog 69 #[.agg #[.int .i64 4, .int .u64 0, .string ⟨#[]⟩, .slice none 0 0, .slice none 0 0]] w fun e w' => e = .returned (.bool true) ∧ Below w.heap.size w w' := by
  have h1 := high4_calls
  have h2 := dead0_calls
  go_enter Try.func69, Try.ntmps69
  go_wp2_with fail
  go_quiet (first | (go_at_call 95; exact quietW (high4_calls _)) | (go_at_call 96; exact quietW (dead0_calls _)))
  go_wp2_with fail
  go_loopw [47] (fun v wr => v = .int .i64 0 ∧ Below w.heap.size w wr) (fun _ _ => 0)
  case atStart => exact ⟨rfl, ((Below.refl _ w).alloc (Nat.le_refl _) _).trans (below_dN _ _)⟩
  case round =>
    obtain ⟨rfl, hB⟩ := hrel
    go_wp2_with fail
    go_ret
    exact ⟨rfl, hB⟩

def root0 : List Int := 0 :: 4 :: List.replicate 262 0
set_option maxRecDepth 100000 in
set_option maxHeartbeats 1000000 in
theorem encode0_calls (w : World) : Calls Try.prog 35 #[.agg #[.int .i64 4, .int .u64 0, .string ⟨#[]⟩, .slice none 0 0, .slice none 0 0]] w fun e w' => ∃ g, e = .returned (.slice (some ⟨g, 0, none⟩) 264 264) ∧ w.heap.size ≤ g ∧ Blk w' g (u64s root0) 36 ∧ Below w.heap.size w w' := by
  have h1 := right0_calls
  have h2 := size_calls 4
  have e2 : MemF.size 4 = 264 := rfl
  rw [e2] at h2
  have hmk := make_u64 264 (by omega)
  have e3 : ((264 : Nat) : Int) = 264 := rfl
  have b1 : bits .or .i64 4 0 = 4 := by decide
  have b2 : IntKind.u64.wrap 4 = 4 := by decide
  rw [e3] at hmk h2
  obtain ⟨Z, hZ⟩ : ∃ Z : List Value, List.replicate 264 (.int .u64 0) = Z := ⟨_, rfl⟩
  have hZl : Z.length = 264 := by rw [← hZ]; simp
  have hroot : (Z.set 0 (.int .u64 0)).set 1 (.int .u64 4) = u64s root0 := by
    rw [← hZ]
    rfl
  rw [hZ] at hmk
  replace hZ := Lib.hid hZ
  replace hZl := Lib.hid hZl
  replace hroot := Lib.hid hroot
  clear e2 e3
  go_enter Try.func35, Try.ntmps35
  go_wp2_with fail
  refine (h1 _).mono ?_
  rintro e w1 ⟨rfl, hB1⟩
  obtain ⟨hc1, hf1⟩ : (∀ o, w1.cell? ⟨w.heap.size, o, none⟩ = [Value.int .i64 4, .int .u64 0, .string ⟨#[]⟩, .slice none 0 0, .slice none 0 0][o]?) ∧ w.heap.size < w1.heap.size := by
    have hb := (Upd.of_below' (S := fun _ => False) hB1).blk (fun h => h) (Blk.new w [.int .i64 4, .int .u64 0, .string ⟨#[]⟩, .slice none 0 0, .slice none 0 0] 82)
    exact ⟨hb.cell, hb.lt⟩
  have hB := ((Below.refl _ w).alloc (Nat.le_refl _) (.cells #[.int .i64 4, .int .u64 0, .string ⟨#[]⟩, .slice none 0 0, .slice none 0 0] 82)).trans (hB1.mono (by simp))
  replace hB := Lib.hid hB
  replace hB1 := Lib.hid hB1
  have hblk : Blk (w1.alloc (.cells Z.toArray 36)) w1.heap.size Z 36 := Blk.new _ _ _
  have z0 : (w1.alloc (.cells Z.toArray 36)).cell? ⟨w1.heap.size, 0, none⟩ = some Z[0]! := by
    rw [hblk.cell, getElem!_pos Z 0 (by rw [hZl.out]; omega)]
    exact List.getElem?_eq_getElem _
  have z1 : (w1.alloc (.cells Z.toArray 36)).cell? ⟨w1.heap.size, 1, none⟩ = some Z[1]! := by
    rw [hblk.cell, getElem!_pos Z 1 (by rw [hZl.out]; omega)]
    exact List.getElem?_eq_getElem _
  have zf := hblk.frozen
  have hblk2 : Blk (w1.alloc (.cells (Z.set 0 (.int .u64 0)).toArray 36)) w1.heap.size (Z.set 0 (.int .u64 0)) 36 := Blk.new _ _ _
  have z2 : (w1.alloc (.cells (Z.set 0 (.int .u64 0)).toArray 36)).cell? ⟨w1.heap.size, 1, none⟩ = some Z[1]! := by
    rw [hblk2.cell, getElem!_pos Z 1 (by rw [hZl.out]; omega), List.getElem?_set_ne (by decide)]
    exact List.getElem?_eq_getElem _
  have zf2 := hblk2.frozen
  replace hblk2 := Lib.hid hblk2
  generalize Z[0]! = Z0 at z0
  generalize Z[1]! = Z1 at z1 z2
  replace hblk := Lib.hid hblk
  go_wp2_with fail
  refine (h2 _).mono ?_
  rintro e w2 ⟨rfl, rfl⟩
  go_wp2_with fail
  refine undraw ?hB1 ?_
  case hB1 => kernel_rfl
  intro K1 hK1
  simp only [Undraw.withAsks, Undraw.asksOf, Undraw.intsOf, Undraw.strsOf, List.contains, List.elem, Nat.reduceBEq, if_true, List.map_nil, List.map_cons, List.nil_append, List.append_nil, List.cons_append]
  go_wp2_with fail
  refine (words0_calls _).mono ?_
  rintro e w2 ⟨rfl, rfl⟩
  go_wp2_with (refine wpList_copy_nothing rfl (.tmp 35) (.tmp 38) 37 37 rfl 36 Try.underlying37 info_u64s _ _ _ _ _ _ rfl rfl rfl ?_)
  have hfin : Blk ((w1.alloc (.cells ((Z.set 0 (.int .u64 0)).set 1 (.int .u64 4)).toArray 36)).alloc (.cells #[] 36)).drew w1.heap.size (u64s root0) 36 := by
    have h5 : Blk (w1.alloc (.cells ((Z.set 0 (.int .u64 0)).set 1 (.int .u64 4)).toArray 36)) w1.heap.size ((Z.set 0 (.int .u64 0)).set 1 (.int .u64 4)) 36 := Blk.new _ _ _
    rw [hroot.out] at h5 ⊢
    exact (h5.alloc _).drew
  have hBf : Below w.heap.size w ((w1.alloc (.cells ((Z.set 0 (.int .u64 0)).set 1 (.int .u64 4)).toArray 36)).alloc (.cells #[] 36)).drew :=
    ((hB.out.alloc (by omega) _).alloc (by simp; omega) _).trans (below_dN _ 1)
  replace hfin := Lib.hid hfin
  replace hBf := Lib.hid hBf
  go_loopw [71] (fun v wr => v = .int .i64 0 ∧ Hid (Blk wr w1.heap.size (u64s root0) 36) ∧ Hid (Below w.heap.size w wr)) (fun _ _ => 0)
  case atStart => exact ⟨rfl, hfin, hBf⟩
  case round =>
    obtain ⟨rfl, hb, hB2⟩ := hrel
    go_wp2_with fail
    go_ret
    exact ⟨_, rfl, by omega, hb.out, hB2.out⟩
end Go.Proofs.Ytpobpijjpbggoaa
