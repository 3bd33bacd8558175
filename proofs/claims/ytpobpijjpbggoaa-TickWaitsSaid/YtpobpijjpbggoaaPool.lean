/- package pool: its heap of numbers. -/
import Derived.Test.YtpobpijjpbggoaaBase
import Derived.Test.YtpobpijjpbggoaaHeap
import Derived.Maps.AppendAt
import Derived.Test.YtpobpijjpbggoaaIMap
set_option linter.unusedSimpArgs false
set_option linter.unusedVariables false
namespace Go.Proofs.Ytpobpijjpbggoaa
open Go.RowKit Go.Ten

/-- Row g holds these integers first. -/
def IntsAt (w : World) (g c : Nat) (xs : List Int) : Prop := ∃ rest : List Value, Blk w g (xs.map (Value.int .i64) ++ rest) 3 ∧ xs.length + rest.length = c
theorem IntsAt.cell {w : World} {g c : Nat} {xs : List Int} (h : IntsAt w g c xs) {i : Nat} (hi : i < xs.length) : w.cell? ⟨g, i, none⟩ = some (.int .i64 xs[i]!) := by
  obtain ⟨rest, hb, _⟩ := h
  rw [hb.cell, List.getElem?_append_left (by simpa using hi)]
  simp [hi]
theorem IntsAt.frozen {w : World} {g c : Nat} {xs : List Int} (h : IntsAt w g c xs) (i : Nat) : w.frozen? ⟨g, i, none⟩ = false := by
  obtain ⟨rest, hb, _⟩ := h
  exact hb.frozen i
theorem IntsAt.set {w : World} {g c : Nat} {xs : List Int} (h : IntsAt w g c xs) {i : Nat} (hi : i < xs.length) (x : Int) : IntsAt (w.setCell ⟨g, i, none⟩ (.int .i64 x)) g c (xs.set i x) := by
  obtain ⟨rest, hb, hl⟩ := h
  refine ⟨rest, ?_, by simpa using hl⟩
  have := hb.setCell i (.int .i64 x)
  rwa [List.set_append_left _ _ (by simpa using hi), ← List.map_set] at this

set_option maxRecDepth 100000 in
set_option maxHeartbeats 400000 in
theorem least_less (g n c : Nat) (xs : List Int) (i j : Nat) (w : World) (h : IntsAt w g c xs) (hi : i < xs.length) (hj : j < xs.length) (hn : xs.length = n) :
    Calls Try.prog 155 #[.slice (some ⟨g, 0, none⟩) n c, .int .i64 i, .int .i64 j] w fun e w' => e = .returned (.bool (decide (xs[i]! < xs[j]!))) ∧ w.drew = w' := by
  have ci := h.cell hi
  have cj := h.cell hj
  have hi' : i < n := by omega
  have hj' : j < n := by omega
  clear hn hi hj
  generalize xs[i]! = a at *
  generalize xs[j]! = b at *
  go_enter Try.func155, Try.ntmps155
  go_wp2
  refine undraw ?hB ?_
  case hB => kernel_rfl
  intro K hK
  simp only [Undraw.withAsks, Undraw.asksOf, Undraw.intsOf, Undraw.strsOf, List.contains, List.elem, Nat.reduceBEq, if_true, List.map_nil, List.map_cons, List.nil_append, List.append_nil, List.cons_append]
  go_wp2
  go_ret
  exact ⟨rfl, rfl⟩

set_option maxRecDepth 100000 in
set_option maxHeartbeats 400000 in
theorem least_swap (g n c : Nat) (xs : List Int) (i j : Nat) (w : World) (h : IntsAt w g c xs) (hi : i < xs.length) (hj : j < xs.length) (hn : xs.length = n) :
    Calls Try.prog 156 #[.slice (some ⟨g, 0, none⟩) n c, .int .i64 i, .int .i64 j] w fun e w' => e = .returned (.tuple #[]) ∧
      (w.drew.setCell ⟨g, i, none⟩ (.int .i64 xs[j]!)).setCell ⟨g, j, none⟩ (.int .i64 xs[i]!) = w' := by
  have ci := h.cell hi
  have cj := h.cell hj
  have ff := h.frozen
  have hi' : i < n := by omega
  have hj' : j < n := by omega
  obtain ⟨b', hb'⟩ := cell?_setCell_some (w := w) (p := ⟨g, i, none⟩) (x := .int .i64 xs[j]!) (q := ⟨g, j, none⟩) (v := .int .i64 xs[j]!) cj
  clear hn hi hj
  generalize xs[i]! = a at *
  generalize xs[j]! = b at *
  go_enter Try.func156, Try.ntmps156
  go_wp2
  refine undraw ?hB ?_
  case hB => kernel_rfl
  intro K hK
  simp only [Undraw.withAsks, Undraw.asksOf, Undraw.intsOf, Undraw.strsOf, List.contains, List.elem, Nat.reduceBEq, if_true, List.map_nil, List.map_cons, List.nil_append, List.append_nil, List.cons_append]
  go_wp2
  go_end0
  exact ⟨rfl, rfl⟩

/-- The interface's methods at a *least. -/
theorem least_run (n : Nat) (w : World) (a : Addr) (m : String) (f : FuncId) (hm : ∀ w, (method (n + 1) 163 (.pointer (some a)) m).run Try.prog w = (loadVar 159 a >>= fun v => pure (f, v)).run Try.prog w) (v : Value) (hc : w.cell? a = some v) :
    (method (n + 1) 163 (.pointer (some a)) m).run Try.prog w = .ok (f, v) w := by
  rw [hm w]
  have : (isAgg 159).run Try.prog w = .ok false w := by kernel_rfl
  simp [loadVar, this, hc]
theorem least_method_Less (n : Nat) (w : World) (a : Addr) : (method (n + 1) 163 (.pointer (some a)) "Less").run Try.prog w = (loadVar 159 a >>= fun v => pure (155, v)).run Try.prog w := by kernel_rfl
theorem least_method_Swap (n : Nat) (w : World) (a : Addr) : (method (n + 1) 163 (.pointer (some a)) "Swap").run Try.prog w = (loadVar 159 a >>= fun v => pure (156, v)).run Try.prog w := by kernel_rfl
theorem least_method_Len (n : Nat) (w : World) (a : Addr) : (method (n + 1) 163 (.pointer (some a)) "Len").run Try.prog w = (loadVar 159 a >>= fun v => pure (154, v)).run Try.prog w := by kernel_rfl
theorem least_method_Push (n : Nat) (w : World) (a : Addr) : (method (n + 1) 163 (.pointer (some a)) "Push").run Try.prog w = .ok (158, .pointer (some a)) w := by kernel_rfl
theorem least_method_Pop (n : Nat) (w : World) (a : Addr) : (method (n + 1) 163 (.pointer (some a)) "Pop").run Try.prog w = .ok (157, .pointer (some a)) w := by kernel_rfl

theorem assert_int (x : Int) (w : World) : (Instr.typeAssert (.iface 3 (.int .i64 x)) 20 3 false).run Try.prog w = .ok (.int .i64 x) w := by kernel_rfl
theorem assert_int_ok (x : Int) (w : World) : (Instr.typeAssert (.iface 3 (.int .i64 x)) 20 3 true).run Try.prog w = .ok (.tuple #[.int .i64 x, .bool true]) w := by kernel_rfl
attribute [local go_sem] assert_int assert_int_ok
theorem info_int : (Try.prog.info? 3).map (fun i => (i.zero, i.size, i.bytes)) = some (some (.int .i64 0), 1, 8) := by kernel_rfl

set_option maxRecDepth 100000 in
set_option maxHeartbeats 400000 in
theorem least_push (b : Nat) (c0 c2 : Value) (p : Option Addr) (n c : Nat) (xs : List Value) (x : Int) (w : World) (h : Blk w b [c0, .slice p n c, c2] 161)
    (ho : w.ownsRow 0 3 1 (.slice p n c) n xs) (hne : (Value.slice p n c).ownBlock ≠ some b) (hn : n < 4294967296) :
    Calls Try.prog 158 #[.pointer (some ⟨b, 1, none⟩), .iface 3 (.int .i64 x)] w fun e w' => e = .returned (.tuple #[]) ∧
      ∃ g c', Blk w' b [c0, .slice (some ⟨g, 0, none⟩) (n + 1) c', c2] 161 ∧ w'.ownsRow 0 3 1 (.slice (some ⟨g, 0, none⟩) (n + 1) c') (n + 1) (xs ++ [.int .i64 x]) ∧
        (p = some ⟨g, 0, none⟩ ∨ w.heap.size ≤ g) ∧ Upd (fun k => k = b ∨ some k = (Value.slice p n c).ownBlock) w w' := by
  have hc := h.cell
  have hf := h.frozen
  have hlt := h.lt
  have hne' := Lib.hid hne
  clear hne
  go_enter Try.func158, Try.ntmps158
  go_wp2
  refine undraw ?hB ?_
  case hB => kernel_rfl
  intro K hK
  simp only [Undraw.withAsks, Undraw.asksOf, Undraw.intsOf, Undraw.strsOf, List.contains, List.elem, Nat.reduceBEq, if_true, List.map_nil, List.map_cons, List.nil_append, List.append_nil, List.cons_append]
  go_wp2_with (refine wpl_append1 _ (.tmp 7) (.tmp 10) 159 3 rfl rfl (.int .i64 0) 8 Try.underlying159 info_int rfl (by decide) p n c xs w.heap.size (.int .i64 x) rfl rfl ?h1 ?h2 rfl hn ?h3)
  case h1 => exact (ho.alloc _)
  case h2 => exact cell_one_new w.drew (.int .i64 x) 3 0 _ rfl
  case h3 =>
    intro g c' w1 hown hupd hg
    have hb1 : Blk w1 b [c0, .slice p n c, c2] 161 := hupd.blk (fun e => hne'.out e.symm) (Blk.alloc h.drew _)
    have hc1 := hb1.cell
    have hf1 := hb1.frozen
    clear hc hf
    go_wp2
    go_end0
    refine ⟨rfl, g, c', ?_, ?_, ?_, ?_⟩
    · exact hb1.setCell 1 _
    · refine ownsRow_setCell_off hown ?_ _
      rcases hg with hg | hg
      · rw [hg] at hne'; exact fun e => hne'.out (by simpa [Value.ownBlock] using e)
      · simp [Value.ownBlock]; omega
    · rcases hg with hg | hg
      · exact .inl hg
      · exact .inr (by omega)
    · refine Upd.setCell (Upd.trans (((Upd.refl _ w).drew).alloc _) hupd fun k _ e => .inr e) (.inl (.inl rfl)) _

set_option maxRecDepth 100000 in
set_option maxHeartbeats 400000 in
theorem least_pop (b : Nat) (c0 c2 : Value) (g n c : Nat) (x : Int) (w : World) (h : Blk w b [c0, .slice (some ⟨g, 0, none⟩) (n + 1) c, c2] 161)
    (hx : w.cell? ⟨g, n, none⟩ = some (.int .i64 x)) (hn : n < 4294967296) (hnc : n + 1 ≤ c) :
    Calls Try.prog 157 #[.pointer (some ⟨b, 1, none⟩)] w fun e w' => e = .returned (.iface 3 (.int .i64 x)) ∧
      w.setCell ⟨b, 1, none⟩ (.slice (some ⟨g, 0, none⟩) n c) = w' := by
  have hc := h.cell
  have hf := h.frozen
  go_enter Try.func157, Try.ntmps157
  go_wp2
  go_ret
  exact ⟨rfl, rfl⟩

/-- The list of numbers that a pool's cell at b holds. -/
structure LeastAt (w : World) (b : Nat) (c0 c2 : Value) (g n c : Nat) (xs : List Int) : Prop where
  blk : Blk w b [c0, .slice (some ⟨g, 0, none⟩) n c, c2] 161
  ints : IntsAt w g c xs
  len : xs.length = n
  ne : g ≠ b

theorem callFunc_Less (args : Array Value) (w : World) : (callFunc 155 args).run Try.prog w = .ok (.enter 155 args) w := by kernel_rfl
theorem callFunc_Swap (args : Array Value) (w : World) : (callFunc 156 args).run Try.prog w = .ok (.enter 156 args) w := by kernel_rfl

def leastI (w0 : World) (b : Nat) (c0 c2 : Value) (g n c : Nat) : HeapI 163 (.pointer (some ⟨b, 1, none⟩)) (fun a b : Int => decide (a < b))
    (fun w xs => LeastAt w b c0 c2 g n c xs ∧ Upd (fun k => k = b ∨ k = g) w0 w) where
  fless := 155
  fswap := 156
  callLess := callFunc_Less
  callSwap := callFunc_Swap
  less := by
    rintro w xs ⟨h, hu⟩
    have hcell : w.cell? ⟨b, 1, none⟩ = some (.slice (some ⟨g, 0, none⟩) n c) := by rw [h.blk.cell]; rfl
    refine ⟨.slice (some ⟨g, 0, none⟩) n c, fun m => least_run m w _ _ _ (fun w => least_method_Less m w _) _ hcell, fun i j hi hj => ?_⟩
    refine (least_less g n c xs i j w h.ints hi hj h.len).mono ?_
    rintro e w' ⟨rfl, rfl⟩
    exact ⟨rfl, ⟨h.blk, h.ints, h.len, h.ne⟩, hu.drew⟩
  swap := by
    rintro w xs ⟨h, hu⟩
    have hcell : w.cell? ⟨b, 1, none⟩ = some (.slice (some ⟨g, 0, none⟩) n c) := by rw [h.blk.cell]; rfl
    refine ⟨.slice (some ⟨g, 0, none⟩) n c, fun m => least_run m w _ _ _ (fun w => least_method_Swap m w _) _ hcell, fun i j hi hj => ?_⟩
    refine (least_swap g n c xs i j w h.ints hi hj h.len).mono ?_
    rintro e w' ⟨rfl, rfl⟩
    have h1 : IntsAt w.drew g c xs := h.ints
    have h2 := (h1.set hi xs[j]!).set (by rw [List.length_set]; exact hj) xs[i]!
    refine ⟨rfl, ⟨?_, h2, by simp [HeapFns.sw, h.len], h.ne⟩, ?_⟩
    · exact ((h.blk.drew).setCell_ne (p := ⟨g, i, none⟩) h.ne _).setCell_ne (p := ⟨g, j, none⟩) h.ne _
    · exact (hu.drew.setCell (p := ⟨g, i, none⟩) (.inl (.inr rfl)) _).setCell (p := ⟨g, j, none⟩) (.inl (.inr rfl)) _

theorem ints_of_owns {w : World} {g n c : Nat} {xs : List Int} (h : w.ownsRow 0 3 1 (.slice (some ⟨g, 0, none⟩) n c) n (xs.map (Value.int .i64))) : IntsAt w g c xs ∧ xs.length = n ∧ n ≤ c ∧ (∃ rest, Blk w g (xs.map (Value.int .i64) ++ rest) 3 ∧ n + rest.length = c) := by
  obtain ⟨h1, h2 | ⟨g', cap, cur, hv, _, hh, hn, _, hs, ht⟩⟩ := h
  · simp at h2
  · simp only [Value.slice.injEq, Option.some.injEq, Addr.mk.injEq] at hv
    obtain ⟨⟨rfl, _⟩, _, rfl⟩ := hv
    have hl : xs.length = n := by simpa using h1
    have hb : Blk w g (xs.map (Value.int .i64) ++ cur.toList.drop n) 3 := by
      unfold Blk
      rw [hh, ← ht, Nat.mul_one, List.take_append_drop]
    exact ⟨⟨_, hb, by simp; omega⟩, hl, hn, _, hb, by simp; omega⟩
theorem owns_of_ints {w : World} {g n c : Nat} {xs : List Int} {rest : List Value} (hb : Blk w g (xs.map (Value.int .i64) ++ rest) 3) (hl : xs.length = n) (hr : n + rest.length = c) (hm : c ≤ maxLen) :
    w.ownsRow 0 3 1 (.slice (some ⟨g, 0, none⟩) n c) n (xs.map (Value.int .i64)) :=
  ⟨by simp [hl], .inr ⟨g, c, _, rfl, Nat.zero_le _, hb, by omega, hm, by simp; omega, by simp [hl]⟩⟩

theorem callFunc_Len (args : Array Value) (w : World) : (callFunc 154 args).run Try.prog w = .ok (.enter 154 args) w := by kernel_rfl
theorem callFunc_Push (args : Array Value) (w : World) : (callFunc 158 args).run Try.prog w = .ok (.enter 158 args) w := by kernel_rfl
theorem callFunc_Pop (args : Array Value) (w : World) : (callFunc 157 args).run Try.prog w = .ok (.enter 157 args) w := by kernel_rfl

set_option maxRecDepth 100000 in
set_option maxHeartbeats 400000 in
theorem least_len (p : Option Addr) (n c : Nat) (w : World) :
    Calls Try.prog 154 #[.slice p n c] w fun e w' => e = .returned (.int .i64 n) ∧ w = w' := by
  go_enter Try.func154, Try.ntmps154
  go_wp2
  go_ret
  exact ⟨rfl, rfl⟩

/-- A pool's numbers after a push: the list goes up from its end. -/
def pushed (xs : List Int) (x : Int) : List Int := HeapFns.up (fun a b : Int => decide (a < b)) (xs.length + 1) (xs ++ [x]) xs.length

set_option maxRecDepth 100000 in
set_option maxHeartbeats 1000000 in
theorem heap_push (b : Nat) (c0 c2 : Value) (p : Option Addr) (n c : Nat) (xs : List Int) (x : Int) (w : World) (h : Blk w b [c0, .slice p n c, c2] 161)
    (ho : w.ownsRow 0 3 1 (.slice p n c) n (xs.map (Value.int .i64))) (hne : (Value.slice p n c).ownBlock ≠ some b) (hn : n < 65536) :
    Calls Try.prog 85 #[.iface 163 (.pointer (some ⟨b, 1, none⟩)), .iface 3 (.int .i64 x)] w fun e w' => e = .returned (.tuple #[]) ∧
      ∃ g c', Blk w' b [c0, .slice (some ⟨g, 0, none⟩) (n + 1) c', c2] 161 ∧ w'.ownsRow 0 3 1 (.slice (some ⟨g, 0, none⟩) (n + 1) c') (n + 1) ((pushed xs x).map (Value.int .i64)) ∧
        (p = some ⟨g, 0, none⟩ ∨ w.heap.size ≤ g) ∧ g ≠ b ∧ Upd (fun k => k = b ∨ some k = (Value.slice p n c).ownBlock) w w' := by
  have hxl : xs.length = n := by simpa using ho.1
  have hm := fun m (w : World) (a : Addr) => least_method_Push m w a
  have hcp := callFunc_Push
  have hcl := callFunc_Len
  have hblt := h.lt
  go_enter Try.func85, Try.ntmps85
  go_wp2_with fail
  refine (least_push b c0 c2 p n c _ x w h ho hne (by omega)).mono ?_
  rintro e w1 ⟨rfl, g, c', hb1, ho1, hg, hu1⟩
  have hcell1 : w1.cell? ⟨b, 1, none⟩ = some (.slice (some ⟨g, 0, none⟩) (n + 1) c') := by rw [hb1.cell]; rfl
  have hm1 := fun m => least_run m w1 ⟨b, 1, none⟩ "Len" _ (fun w => least_method_Len m w _) _ hcell1
  have hgb : g ≠ b := by
    rcases hg with hg | hg
    · rw [hg] at hne; exact fun e => hne (by simp [Value.ownBlock, e])
    · omega
  rw [← List.map_singleton, ← List.map_append] at ho1
  obtain ⟨hi1, hl1, hnc, rest, hr1, hrl⟩ := ints_of_owns ho1
  have hmax : c' ≤ maxLen := by
    obtain ⟨_, h2 | ⟨g', cap, cur, hv, _, _, _, hm, _⟩⟩ := ho1
    · simp at h2
    · simp only [Value.slice.injEq] at hv; omega
  replace hmax := Lib.hid hmax
  clear hm
  go_wp2_with fail
  refine (least_len _ _ _ _).mono ?_
  rintro e w2 ⟨rfl, rfl⟩
  go_wp2_with fail
  have hlt : n < (xs ++ [x]).length := by simp [hxl]
  refine (calls_at (heap_up (leastI w1 b c0 c2 g (n + 1) c') w1 (xs ++ [x]) n ⟨⟨hb1, hi1, hl1, hgb⟩, Upd.refl _ _⟩ hlt (by simp [hxl]; omega)) (by simp)).mono ?_
  rintro e w2 ⟨rfl, hL, hu2⟩
  go_wp2_with fail
  go_end0
  refine ⟨rfl, g, c', hL.blk, ?_, hg, hgb, ?_⟩
  · have e1 : HeapFns.up (fun a b : Int => decide (a < b)) (n + 1) (xs ++ [x]) n = pushed xs x := by unfold pushed; rw [hxl]
    rw [e1] at hL
    obtain ⟨rest2, hr2, hr3⟩ := hL.ints
    have hlen := hL.len
    exact owns_of_ints hr2 hlen (by omega) hmax.out
  · refine hu1.trans hu2 ?_
    rintro k hk (rfl | rfl)
    · exact .inl rfl
    · rcases hg with hg | hg
      · rw [hg]; exact .inr rfl
      · omega
end Go.Proofs.Ytpobpijjpbggoaa
