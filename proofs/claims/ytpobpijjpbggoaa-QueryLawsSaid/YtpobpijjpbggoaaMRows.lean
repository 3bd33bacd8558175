/- package merge: the heap of rows. -/
import Derived.Test.YtpobpijjpbggoaaMerge2
import Derived.Test.YtpobpijjpbggoaaHeap
import Derived.Test.YtpobpijjpbggoaaHeapOrder
set_option linter.unusedSimpArgs false
set_option linter.unusedVariables false
namespace Go.Proofs.Ytpobpijjpbggoaa
open Go.RowKit Go.Ten Go.Ten.Mg

/-- A row's element: a slice that reads as a list, which is not empty; its cells lie neither in b nor in g. -/
structure Elem (w : World) (b g : Nat) (e : Value × List Int) : Prop where
  reads : IntsR w e.1 e.2
  pos : e.2 ≠ []
  off : ∀ k, e.1.ownBlock = some k → k ≠ b ∧ k ≠ g

def key (e : Value × List Int) : Int := e.2.headD 0
def ltE (a b : Value × List Int) : Bool := decide (key a < key b)

theorem Elem.form {w : World} {b g : Nat} {e : Value × List Int} (h : Elem w b g e) : ∃ blk off n c, e.1 = .slice (some ⟨blk, off, none⟩) (n + 1) c ∧ e.2.length = n + 1 ∧ w.cell? ⟨blk, off, none⟩ = some (.int .i64 (key e)) := by
  obtain ⟨⟨p, c, hv, ⟨hl, _⟩, hc⟩, hp, _⟩ := h
  rcases e with ⟨v, l⟩
  rcases l with _ | ⟨x, t⟩
  · exact absurd rfl hp
  · obtain ⟨blk, off, rfl, h1⟩ := hc 0 (by simp)
    exact ⟨blk, off, t.length, c, hv, rfl, h1⟩
theorem Elem.cap {w : World} {b g : Nat} {l : List Int} {p : Option Addr} {n c : Nat} (h : Elem w b g (.slice p n c, l)) : n ≤ c := by
  obtain ⟨⟨p', c', hv, ⟨hl, _⟩, hc⟩, hp, _⟩ := h
  simp only [Value.slice.injEq] at hv
  obtain ⟨_, h1, h2⟩ := hv
  have h3 : l.length ≤ c' := hl.2
  have h4 : n = l.length := h1
  omega
theorem Elem.upd {S : Nat → Prop} {w w' : World} {b g : Nat} {e : Value × List Int} (h : Elem w b g e) (hu : Upd S w w') (hs : ∀ k, k < w.heap.size → S k → k = b ∨ k = g) : Elem w' b g e :=
  ⟨h.reads.upd hu fun k hk ho hsk => by have := h.off k ho; rcases hs k hk hsk with h1 | h1 <;> omega, h.pos, h.off⟩

/-- The heap of rows at b: its cells lie at g. -/
structure RowsAt (w : World) (b g n c : Nat) (rest : List Value) (L : List (Value × List Int)) : Prop where
  blk : Blk w b [.slice (some ⟨g, 0, none⟩) n c] 152
  row : Blk w g (L.map Prod.fst ++ rest) 64
  els : ∀ e ∈ L, Elem w b g e
  len : L.length ≤ n
  ne : g ≠ b

theorem RowsAt.cell {w : World} {b g n c : Nat} {rest : List Value} {L : List (Value × List Int)} (h : RowsAt w b g n c rest L) {i : Nat} (hi : i < L.length) : w.cell? ⟨g, i, none⟩ = some L[i]!.1 := by
  rw [h.row.cell, List.getElem?_append_left (by simpa using hi)]
  simp [hi]
theorem RowsAt.elem {w : World} {b g n c : Nat} {rest : List Value} {L : List (Value × List Int)} (h : RowsAt w b g n c rest L) {i : Nat} (hi : i < L.length) : Elem w b g L[i]! := by
  rw [getElem!_pos L i hi]
  exact h.els _ (List.getElem_mem hi)
theorem RowsAt.drew {w : World} {b g n c : Nat} {rest : List Value} {L : List (Value × List Int)} (h : RowsAt w b g n c rest L) : RowsAt w.drew b g n c rest L :=
  ⟨h.blk, h.row, fun e he => (h.els e he).upd (S := fun _ => False) (Upd.refl _ w).drew fun _ _ hh => hh.elim, h.len, h.ne⟩

set_option maxRecDepth 100000 in
set_option maxHeartbeats 400000 in
theorem rows_less (b g n c : Nat) (rest : List Value) (L : List (Value × List Int)) (i j : Nat) (w : World) (h : RowsAt w b g n c rest L) (hi : i < L.length) (hj : j < L.length) :
    Calls Try.prog 150 #[.slice (some ⟨g, 0, none⟩) n c, .int .i64 i, .int .i64 j] w fun e w' => e = .returned (.bool (ltE L[i]! L[j]!)) ∧ w.drew = w' := by
  have ci := h.cell hi
  have cj := h.cell hj
  obtain ⟨b1, o1, n1, c1, e1, _, k1⟩ := (h.elem hi).form
  obtain ⟨b2, o2, n2, c2, e2, _, k2⟩ := (h.elem hj).form
  rw [e1] at ci
  rw [e2] at cj
  have hi' : i < n := by have := h.len; omega
  have hj' : j < n := by have := h.len; omega
  unfold ltE
  generalize key L[i]! = x at *
  generalize key L[j]! = y at *
  clear hi hj e1 e2 h
  go_enter Try.func150, Try.ntmps150
  go_wp2
  refine undraw ?hB ?_
  case hB => kernel_rfl
  intro K hK
  simp only [Undraw.withAsks, Undraw.asksOf, Undraw.intsOf, Undraw.strsOf, List.contains, List.elem, Nat.reduceBEq, if_true, List.map_nil, List.map_cons, List.nil_append, List.append_nil, List.cons_append]
  go_wp2
  go_ret
  exact ⟨rfl, rfl⟩

set_option maxRecDepth 100000 in
set_option maxHeartbeats 400000 in
theorem rows_swap0 (g n c i j : Nat) (p1 p2 : Option Addr) (n1 c1 n2 c2 : Nat) (w : World) (ci : w.cell? ⟨g, i, none⟩ = some (.slice p1 n1 c1)) (cj : w.cell? ⟨g, j, none⟩ = some (.slice p2 n2 c2))
    (ff : ∀ o, w.frozen? ⟨g, o, none⟩ = false) (hi' : i < n) (hj' : j < n) :
    Calls Try.prog 153 #[.slice (some ⟨g, 0, none⟩) n c, .int .i64 i, .int .i64 j] w fun e w' => e = .returned (.tuple #[]) ∧
      (w.drew.setCell ⟨g, i, none⟩ (.slice p2 n2 c2)).setCell ⟨g, j, none⟩ (.slice p1 n1 c1) = w' := by
  obtain ⟨b', hb'⟩ := cell?_setCell_some (w := w) (p := ⟨g, i, none⟩) (x := .slice p2 n2 c2) (q := ⟨g, j, none⟩) (v := .slice p2 n2 c2) cj
  go_enter Try.func153, Try.ntmps153
  go_wp2
  refine undraw ?hB ?_
  case hB => kernel_rfl
  intro K hK
  simp only [Undraw.withAsks, Undraw.asksOf, Undraw.intsOf, Undraw.strsOf, List.contains, List.elem, Nat.reduceBEq, if_true, List.map_nil, List.map_cons, List.nil_append, List.append_nil, List.cons_append]
  go_wp2
  go_end0
  exact ⟨rfl, rfl⟩

theorem rows_swap (b g n c : Nat) (rest : List Value) (L : List (Value × List Int)) (i j : Nat) (w : World) (h : RowsAt w b g n c rest L) (hi : i < L.length) (hj : j < L.length) :
    Calls Try.prog 153 #[.slice (some ⟨g, 0, none⟩) n c, .int .i64 i, .int .i64 j] w fun e w' => e = .returned (.tuple #[]) ∧
      (w.drew.setCell ⟨g, i, none⟩ L[j]!.1).setCell ⟨g, j, none⟩ L[i]!.1 = w' := by
  have ci := h.cell hi
  have cj := h.cell hj
  obtain ⟨b1, o1, n1, c1, e1, _, k1⟩ := (h.elem hi).form
  obtain ⟨b2, o2, n2, c2, e2, _, k2⟩ := (h.elem hj).form
  rw [e1] at ci ⊢
  rw [e2] at cj ⊢
  exact rows_swap0 g n c i j _ _ _ _ _ _ w ci cj h.row.frozen (by have := h.len; omega) (by have := h.len; omega)

/-! ### The interface's methods at a *rows -/
theorem rows_run (n : Nat) (w : World) (a : Addr) (m : String) (f : FuncId) (hm : ∀ w, (method (n + 1) 107 (.pointer (some a)) m).run Try.prog w = (loadVar 152 a >>= fun v => pure (f, v)).run Try.prog w) (v : Value) (hc : w.cell? a = some v) :
    (method (n + 1) 107 (.pointer (some a)) m).run Try.prog w = .ok (f, v) w := by
  rw [hm w]
  have : (isAgg 152).run Try.prog w = .ok false w := by kernel_rfl
  simp [loadVar, this, hc]
theorem rows_method_Less (n : Nat) (w : World) (a : Addr) : (method (n + 1) 107 (.pointer (some a)) "Less").run Try.prog w = (loadVar 152 a >>= fun v => pure (150, v)).run Try.prog w := by kernel_rfl
theorem rows_method_Swap (n : Nat) (w : World) (a : Addr) : (method (n + 1) 107 (.pointer (some a)) "Swap").run Try.prog w = (loadVar 152 a >>= fun v => pure (153, v)).run Try.prog w := by kernel_rfl
theorem rows_method_Len (n : Nat) (w : World) (a : Addr) : (method (n + 1) 107 (.pointer (some a)) "Len").run Try.prog w = (loadVar 152 a >>= fun v => pure (56, v)).run Try.prog w := by kernel_rfl
theorem rows_method_Push (n : Nat) (w : World) (a : Addr) : (method (n + 1) 107 (.pointer (some a)) "Push").run Try.prog w = .ok (152, .pointer (some a)) w := by kernel_rfl
theorem rows_method_Pop (n : Nat) (w : World) (a : Addr) : (method (n + 1) 107 (.pointer (some a)) "Pop").run Try.prog w = .ok (151, .pointer (some a)) w := by kernel_rfl
theorem rowsFunc_Less (args : Array Value) (w : World) : (callFunc 150 args).run Try.prog w = .ok (.enter 150 args) w := by kernel_rfl
theorem rowsFunc_Swap (args : Array Value) (w : World) : (callFunc 153 args).run Try.prog w = .ok (.enter 153 args) w := by kernel_rfl
theorem rowsFunc_Len (args : Array Value) (w : World) : (callFunc 56 args).run Try.prog w = .ok (.enter 56 args) w := by kernel_rfl
theorem rowsFunc_Push (args : Array Value) (w : World) : (callFunc 152 args).run Try.prog w = .ok (.enter 152 args) w := by kernel_rfl
theorem rowsFunc_Pop (args : Array Value) (w : World) : (callFunc 151 args).run Try.prog w = .ok (.enter 151 args) w := by kernel_rfl
theorem assert_slice (p : Option Addr) (n c : Nat) (w : World) : (Instr.typeAssert (.iface 64 (.slice p n c)) 20 64 false).run Try.prog w = .ok (.slice p n c) w := by kernel_rfl
attribute [local go_sem] assert_slice

theorem RowsAt.swap {w : World} {b g n c : Nat} {rest : List Value} {L : List (Value × List Int)} (h : RowsAt w b g n c rest L) {i j : Nat} (hi : i < L.length) (hj : j < L.length) :
    RowsAt ((w.drew.setCell ⟨g, i, none⟩ L[j]!.1).setCell ⟨g, j, none⟩ L[i]!.1) b g n c rest (HeapFns.sw L i j) := by
  have hu : Upd (fun k => k = g) w ((w.drew.setCell ⟨g, i, none⟩ L[j]!.1).setCell ⟨g, j, none⟩ L[i]!.1) := (((Upd.refl (fun k => k = g) w).drew).setCell (p := ⟨g, i, none⟩) (.inl rfl) _).setCell (p := ⟨g, j, none⟩) (.inl rfl) _
  refine ⟨hu.blk (fun e => h.ne e.symm) h.blk, ?_, ?_, by rw [HeapFns.sw_length]; exact h.len, h.ne⟩
  · have := (((h.row.drew).setCell i L[j]!.1).setCell j L[i]!.1)
    rw [List.set_append_left _ _ (by simpa using hi), List.set_append_left _ _ (by simpa using hj)] at this
    have e : (HeapFns.sw L i j).map Prod.fst = ((L.map Prod.fst).set i L[j]!.1).set j L[i]!.1 := by simp [HeapFns.sw, List.map_set]
    rw [e]
    exact this
  · intro e he
    have he' : e ∈ L := (HeapFns.sw_perm L hi hj).mem_iff.1 he
    exact (h.els e he').upd hu fun k _ hk => .inr hk

def rowsI (w0 : World) (b g n c : Nat) (rest : List Value) : HeapI 107 (.pointer (some ⟨b, 0, none⟩)) ltE (fun w L => RowsAt w b g n c rest L ∧ Upd (fun k => k = b ∨ k = g) w0 w) where
  fless := 150
  fswap := 153
  callLess := rowsFunc_Less
  callSwap := rowsFunc_Swap
  less := by
    rintro w L ⟨h, hu⟩
    have hcell : w.cell? ⟨b, 0, none⟩ = some (.slice (some ⟨g, 0, none⟩) n c) := by rw [h.blk.cell]; rfl
    refine ⟨.slice (some ⟨g, 0, none⟩) n c, fun m => rows_run m w _ _ _ (fun w => rows_method_Less m w _) _ hcell, fun i j hi hj => ?_⟩
    refine (rows_less b g n c rest L i j w h hi hj).mono ?_
    rintro e w' ⟨rfl, rfl⟩
    exact ⟨rfl, h.drew, hu.drew⟩
  swap := by
    rintro w L ⟨h, hu⟩
    have hcell : w.cell? ⟨b, 0, none⟩ = some (.slice (some ⟨g, 0, none⟩) n c) := by rw [h.blk.cell]; rfl
    refine ⟨.slice (some ⟨g, 0, none⟩) n c, fun m => rows_run m w _ _ _ (fun w => rows_method_Swap m w _) _ hcell, fun i j hi hj => ?_⟩
    refine (rows_swap b g n c rest L i j w h hi hj).mono ?_
    rintro e w' ⟨rfl, rfl⟩
    exact ⟨rfl, h.swap hi hj, (hu.drew.setCell (p := ⟨g, i, none⟩) (.inl (.inr rfl)) _).setCell (p := ⟨g, j, none⟩) (.inl (.inr rfl)) _⟩

set_option maxRecDepth 100000 in
set_option maxHeartbeats 400000 in
theorem rows_len (p : Option Addr) (n c : Nat) (w : World) : Calls Try.prog 56 #[.slice p n c] w fun e w' => e = .returned (.int .i64 n) ∧ w = w' := by
  go_enter Try.func56, Try.ntmps56
  go_wp2
  go_ret
  exact ⟨rfl, rfl⟩

theorem info_row : (Try.prog.info? 64).map (fun i => (i.zero.map (fun z => z.cells.size), i.size, i.bytes)) = some (some 1, 1, 24) := by kernel_rfl

set_option maxRecDepth 100000 in
set_option maxHeartbeats 400000 in
theorem rows_push (B b : Nat) (p q : Option Addr) (n c m d : Nat) (xs : List Value) (w : World) (h : Blk w b [.slice p n c] 152)
    (ho : w.ownsRow B 64 1 (.slice p n c) n xs) (hB : B ≤ w.heap.size) (hne : (Value.slice p n c).ownBlock ≠ some b) (hn : n < 4294967296) :
    Calls Try.prog 152 #[.pointer (some ⟨b, 0, none⟩), .iface 64 (.slice q m d)] w fun e w' => e = .returned (.tuple #[]) ∧
      ∃ g c', Blk w' b [.slice (some ⟨g, 0, none⟩) (n + 1) c'] 152 ∧ w'.ownsRow B 64 1 (.slice (some ⟨g, 0, none⟩) (n + 1) c') (n + 1) (xs ++ [.slice q m d]) ∧
        (p = some ⟨g, 0, none⟩ ∨ w.heap.size ≤ g) ∧ Upd (fun k => k = b ∨ some k = (Value.slice p n c).ownBlock) w w' := by
  have hc := h.cell
  have hf := h.frozen
  have hlt := h.lt
  have hne' := Lib.hid hne
  clear hne
  go_enter Try.func152, Try.ntmps152
  go_wp2
  refine undraw ?hB ?_
  case hB => kernel_rfl
  intro K hK
  simp only [Undraw.withAsks, Undraw.asksOf, Undraw.intsOf, Undraw.strsOf, List.contains, List.elem, Nat.reduceBEq, if_true, List.map_nil, List.map_cons, List.nil_append, List.append_nil, List.cons_append]
  go_wp2_with (refine wpl_appendk _ (.tmp 7) (.tmp 10) 152 64 rfl rfl 1 24 Try.underlying152 info_row (by decide) (by decide) p n c xs B w.heap.size [.slice q m d] rfl rfl rfl ?h1 ?h2 ?h3 ?h4 hn ?h5)
  case h1 => exact ho.alloc _
  case h2 => simp; omega
  case h3 => exact one_new w.drew (.slice q m d) 64
  case h4 => intro u hu; simp at hu; subst hu; rfl
  case h5 =>
    intro g c' w1 hown hupd hg
    have hb1 : Blk w1 b [.slice p n c] 152 := hupd.blk (fun e => hne'.out e.symm) (Blk.alloc h.drew _)
    have hc1 := hb1.cell
    have hf1 := hb1.frozen
    clear hc hf
    go_wp2
    go_end0
    refine ⟨rfl, g, c', ?_, ?_, ?_, ?_⟩
    · exact hb1.setCell 0 _
    · refine ownsRow_setCell_off hown ?_ _
      rcases hg with hg | hg
      · rw [hg] at hne'; exact fun e => hne'.out (by simpa [Value.ownBlock] using e)
      · simp [Value.ownBlock]; omega
    · rcases hg with hg | hg
      · exact .inl hg
      · exact .inr (by omega)
    · refine Upd.setCell (Upd.trans (((Upd.refl _ w).drew).alloc _) hupd fun k _ e => .inr e) (.inl (.inl rfl)) _

set_option maxRecDepth 100000 in
set_option maxHeartbeats 400000 in
theorem rows_pop (b g n c : Nat) (q : Option Addr) (m d : Nat) (w : World) (h : Blk w b [.slice (some ⟨g, 0, none⟩) (n + 1) c] 152)
    (hx : w.cell? ⟨g, n, none⟩ = some (.slice q m d)) (hn : n < 4294967296) (hnc : n + 1 ≤ c) :
    Calls Try.prog 151 #[.pointer (some ⟨b, 0, none⟩)] w fun e w' => e = .returned (.iface 64 (.slice q m d)) ∧
      w.setCell ⟨b, 0, none⟩ (.slice (some ⟨g, 0, none⟩) n c) = w' := by
  have hc := h.cell
  have hf := h.frozen
  go_enter Try.func151, Try.ntmps151
  go_wp2
  go_ret
  exact ⟨rfl, rfl⟩
end Go.Proofs.Ytpobpijjpbggoaa
