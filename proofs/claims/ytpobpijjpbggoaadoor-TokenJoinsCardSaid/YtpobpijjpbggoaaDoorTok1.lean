/- strings.SplitSeq at a separator of one zero byte: what it yields. -/
import Derived.Test.YtpobpijjpbggoaaDoorBase
import Derived.Test.YtpobpijjpbggoaaDoorShelf
import Derived.Test.YtpobpijjpbggoaaDoorRange
import Derived.Test.YtpobpijjpbggoaaDoorTokFns
import Derived.TacticsInMore
import Derived.LoopNIn
import Derived.LoopIn
set_option linter.unusedSimpArgs false
set_option linter.unusedVariables false
namespace Go.Proofs.YtpobpijjpbggoaaDoor
open Go.RowKit Go.Shelf Go.Ten Go.Ten.Qy Go.Ten.Tk

attribute [local go_sem] Oper.semAt_some

/-- A round keeps the iterator's three boxes. -/
def Keep3 (b : Nat) (A B : World) : Prop := ∀ k, b ≤ k → k < b + 3 → B.heap[k]? = A.heap[k]?

def cellLen0 (w : World) (b : Nat) : Nat := match w.cell? ⟨b, 0, none⟩ with | some (.string s) => s.size | _ => 0
theorem cellLen0_str {w : World} {b : Nat} {l : List UInt8} (h : w.cell? ⟨b, 0, none⟩ = some (.string ⟨l.toArray⟩)) : cellLen0 w b = l.length := by
  unfold cellLen0
  rw [h]
  simp [ByteArray.size]

theorem ext_drop (l : List UInt8) (k : Nat) : (ByteArray.mk l.toArray).extract k l.length = ⟨(l.drop k).toArray⟩ := by
  rw [ByteArray.extract_mk]; simp
  rw [List.take_of_length_le (by simp)]
theorem ext_take (l : List UInt8) (k : Nat) : (ByteArray.mk l.toArray).extract 0 k = ⟨(l.take k).toArray⟩ := by
  rw [ByteArray.extract_mk]; simp
theorem size_str (s : List UInt8) : (ByteArray.mk s.toArray).size = s.length := by simp [ByteArray.size]

set_option maxRecDepth 100000 in
set_option maxHeartbeats 2000000 in
theorem split_stops (n : Nat) (hn : 1 ≤ n) (b : Nat) (s : List UInt8) (hs : s.length ≤ 512) (w : World) (hb : Blk w b [.string ⟨s.toArray⟩] 9) (hb1 : Blk w (b + 1) [.string ⟨#[0]⟩] 9) (hb2 : Blk w (b + 2) [.int .i64 0] 3) :
    SeqStopsZ Fence.wide n Tryd.prog 17 #[.pointer (some ⟨b + 1, 0, none⟩), .pointer (some ⟨b, 0, none⟩), .pointer (some ⟨b + 2, 0, none⟩)] (fun x : List UInt8 => #[.string ⟨x.toArray⟩]) (Keep3 b) b (fun ys => ys = splitZ s) (splitZ s).length w := by
  intro l J W hW hZ hY h0
  refine callsIn_of_wp Tryd.func17 rfl trivial ?_ rfl
  simp only [Tryd.ntmps17, List.size_toArray, List.length_cons, List.length_nil, Nat.reduceAdd, Nat.reduceSub, Array.replicate_succ, Array.replicate_zero, List.push_toArray, List.append_toArray, List.nil_append, List.cons_append]
  have hB : Blk W b [.string ⟨s.toArray⟩] 9 := by have := hb.lt; unfold Blk at *; rw [hW.block b this]; exact hb
  have hB1 : Blk W (b + 1) [.string ⟨#[0]⟩] 9 := by have := hb1.lt; unfold Blk at *; rw [hW.block _ this]; exact hb1
  have hB2 : Blk W (b + 2) [.int .i64 0] 3 := by have := hb2.lt; unfold Blk at *; rw [hW.block _ this]; exact hb2
  have c1 : W.cell? ⟨b + 1, 0, none⟩ = some (.string ⟨#[0]⟩) := by rw [hB1.cell]; rfl
  clear hb hb1 hb2
  gi_wp2
  gi_loopw [] (fun wr => ∃ pre rest, splitZ s = pre ++ splitZ rest ∧ rest.length ≤ 512 ∧ Blk wr b [.string ⟨rest.toArray⟩] 9 ∧ Blk wr (b + 1) [.string ⟨#[0]⟩] 9 ∧ Blk wr (b + 2) [.int .i64 0] 3 ∧ J pre wr) (fun wr => cellLen0 wr b)
  case atStart => exact ⟨[], s, rfl, hs, hB, hB1, hB2, h0⟩
  case round =>
    obtain ⟨pre, rest, hx, hr, hB, hB1, hB2, hJ⟩ := hrel
    have d0 := hB.cell 0
    have f0 := hB.frozen 0
    have d1 := hB1.cell 0
    have d2 := hB2.cell 0
    simp only [List.getElem?_cons_zero] at d0 d1 d2
    have hlen : pre.length < (splitZ s).length := by
      obtain ⟨p, ps, e⟩ := splitZ_form rest
      rw [hx, e]; simp
    have hcall := Tryd.strings_Index_one ⟨rest.toArray⟩ 0 wr
    have hge := Lib.indexByte_ge rest 0
    replace hx := Lib.hid hx
    have hsz := size_str rest
    by_cases hi : Lib.indexByte rest 0 = -1
    · have e0 : Lib.indexByte (ByteArray.mk rest.toArray).data.toList 0 = -1 := hi
      rw [e0] at hcall
      have hsp := Lib.hid (splitZ_none hi)
      obtain ⟨fn, tmps, assign, body, hy, hR⟩ := hY pre rest wr hJ hlen
      try dsimp only at hy
      clear hi e0 hge
      gi_wp2_with (refine ⟨trivial, ?_⟩; gi_at_call 19; refine (callsIn_wide.2 hcall).mono ?_; rintro e w' ⟨rfl, rfl⟩)
      refine hR.mono ?_
      rintro e W3 ⟨rfl, hJ3, _⟩
      gi_wp2
      go_end0
      exact ⟨⟨_, rfl⟩, _, by rw [hx.out, hsp.out], hJ3⟩
    · obtain ⟨i, hi'⟩ : ∃ i : Nat, Lib.indexByte rest 0 = i := ⟨(Lib.indexByte rest 0).toNat, by omega⟩
      have e0 : Lib.indexByte (ByteArray.mk rest.toArray).data.toList 0 = i := hi'
      rw [e0] at hcall
      obtain ⟨hil, hsp⟩ := splitZ_some hi'
      replace hsp := Lib.hid hsp
      obtain ⟨fn, tmps, assign, body, hy, hR⟩ := hY pre (rest.take i) wr hJ hlen
      try dsimp only at hy
      have et := ext_take rest i
      have ed := ext_drop rest (i + 1)
      obtain ⟨x1, hx1⟩ : ∃ x1, rest.take i = x1 := ⟨_, rfl⟩
      obtain ⟨x2, hx2⟩ : ∃ x2, rest.drop (i + 1) = x2 := ⟨_, rfl⟩
      rw [hx1] at et hy hR
      rw [hx2] at ed
      have hl2 : x2.length = rest.length - (i + 1) := by rw [← hx2]; simp
      obtain ⟨L, hL⟩ : ∃ L, rest.length = L := ⟨_, rfl⟩
      rw [hL] at hsz ed hil hr
      replace hx1 := Lib.hid hx1
      replace hx2 := Lib.hid hx2
      replace hl2 := Lib.hid hl2
      replace hL := Lib.hid hL
      clear hi hi' e0 hge
      gi_wp2_with (refine ⟨trivial, ?_⟩; gi_at_call 19; refine (callsIn_wide.2 hcall).mono ?_; rintro e w' ⟨rfl, rfl⟩)
      refine hR.mono ?_
      rintro e W3 ⟨rfl, hJ3, hk3⟩
      have hB3 : Blk W3 b [.string ⟨rest.toArray⟩] 9 := by unfold Blk at *; rw [hk3 b (by omega) (by omega)]; exact hB
      have hB13 : Blk W3 (b + 1) [.string ⟨#[0]⟩] 9 := by unfold Blk at *; rw [hk3 (b + 1) (by omega) (by omega)]; exact hB1
      have hB23 : Blk W3 (b + 2) [.int .i64 0] 3 := by unfold Blk at *; rw [hk3 (b + 2) (by omega) (by omega)]; exact hB2
      have q0 := hB3.cell 0
      have q1 := hB13.cell 0
      have q2 := hB3.frozen 0
      simp only [List.getElem?_cons_zero] at q0 q1
      gi_wp2
      go_roundw
      case rel =>
        refine ⟨pre ++ [x1], x2, ?_, by have := hl2.out; have := hL.out; omega, hB3.setCell 0 _, hB13.setCell_ne (p := ⟨b, 0, none⟩) (by simp) _, hB23.setCell_ne (p := ⟨b, 0, none⟩) (by simp) _, hZ _ _ _ hJ3⟩
        rw [hx.out, hsp.out, hx1.out, hx2.out]
        simp
      case measure =>
        rw [cellLen0_str (hB3.setCell 0 _ |>.cell 0), cellLen0_str d0, hl2.out, hL.out]
        omega
end Go.Proofs.YtpobpijjpbggoaaDoor
