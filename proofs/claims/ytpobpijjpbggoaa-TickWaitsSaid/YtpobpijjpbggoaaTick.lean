/- package tick: the program that brings the epoch on. -/
import Derived.Test.YtpobpijjpbggoaaBase
set_option linter.unusedSimpArgs false
set_option linter.unusedVariables false
namespace Go.MemF
/-- A tick under way; next: 0 over, 1 atEpoch, 2 atPin, 3 atAdvance, 4 atCollect. -/
structure Tk where
  clients : Int
  kind : Int
  n : Int
  next : Nat
  epoch : Int
  took : Bool
def Tk.new (c : Int) : Tk := { clients := c, kind := 7, n := 0, next := 1, epoch := 0, took := false }
def Tk.collect (T : Tk) : Tk := { T with kind := 12, n := 0, next := 4 }
def Tk.got (T : Tk) (rn : Int) (rok : Bool) : Tk :=
  let U := { T with took := false }
  if T.next = 1 then { U with epoch := rn, kind := 10, n := 0, next := 2 } else
  if T.next = 2 then (if 0 ≤ rn ∧ rn ≠ T.epoch then U.collect else if T.n + 1 < T.clients then { U with kind := 10, n := T.n + 1, next := 2 } else { U with kind := 11, n := T.epoch, next := 3 }) else
  if T.next = 3 then U.collect else
  if T.next = 4 then (if rok then U else { U with took := true, kind := 0, n := 0, next := 0 }) else U
/-- A tick that may be. -/
def TkOk (T : Tk) : Prop := T.clients ≤ 8 ∧ T.next ≤ 4 ∧ (T.next = 2 → 0 ≤ T.n ∧ T.n < T.clients)
theorem TkOk.got {T : Tk} (h : TkOk T) (h1 : 1 ≤ T.clients) (rn : Int) (ok : Bool) : TkOk (T.got rn ok) ∧ (T.got rn ok).clients = T.clients := by
  obtain ⟨h2, h3, h4⟩ := h
  unfold Tk.got Tk.collect TkOk
  dsimp only
  split
  · exact ⟨⟨h2, by simp, fun _ => ⟨by simp, by simp; omega⟩⟩, rfl⟩
  split
  · rename_i e
    split
    · exact ⟨⟨h2, by simp, fun e => by simp at e⟩, rfl⟩
    · split
      · have := h4 e
        exact ⟨⟨h2, by simp, fun _ => ⟨by simp; omega, by simp; omega⟩⟩, rfl⟩
      · exact ⟨⟨h2, by simp, fun e => by simp at e⟩, rfl⟩
  split
  · exact ⟨⟨h2, by simp, fun e => by simp at e⟩, rfl⟩
  split
  · split
    · exact ⟨⟨h2, h3, fun e2 => h4 e2⟩, rfl⟩
    · exact ⟨⟨h2, by simp, fun e => by simp at e⟩, rfl⟩
  · exact ⟨⟨h2, h3, h4⟩, rfl⟩
end Go.MemF
namespace Go.Proofs.Ytpobpijjpbggoaa
open Go.RowKit Go.Ten

def tkC (c k n : Int) (f : Value) (ep : Int) (tk : Bool) : List Value := [.int .i64 c, .int .i64 k, .int .i64 0, .int .i64 0, .int .i64 n, .int .u64 0, .slice none 0 0, f, .int .i64 ep, .bool tk]

set_option maxRecDepth 100000 in
set_option maxHeartbeats 400000 in
theorem tk_wants_calls (b : Nat) (c k n : Int) (f : Value) (ep : Int) (tk : Bool) (k' n' : Int) (i : FuncId) (w : World) (h : Blk w b (tkC c k n f ep tk) 87) :
    Calls Try.prog 36 #[.pointer (some ⟨b, 0, none⟩), .agg #[.int .i64 k', .int .i64 0, .int .i64 0, .int .i64 n', .int .u64 0, .slice none 0 0], .func (.func i) #[] #[]] w fun e w' => e = .returned (.tuple #[]) ∧ Blk w' b (tkC c k' n' (.func (.func i) #[] #[]) ep tk) 87 ∧ Upd (fun k => k = b) w w' := by
  have hc := h.cell
  have hf := h.frozen
  have hlt := h.lt
  have hb := Lib.hid h
  unfold tkC at hc
  clear h
  go_enter Try.func36, Try.ntmps36
  go_wp2_with fail
  go_end0
  refine ⟨rfl, ?_, ?_⟩
  · have h2 := ((((((((hb.out.setCell 1 (.int .i64 k')).setCell 2 (.int .i64 0)).setCell 3 (.int .i64 0)).setCell 4 (.int .i64 n')).setCell 5 (.int .u64 0)).setCell 6 (.slice none 0 0)).setCell 7 (.func (.func i) #[] #[])).alloc (.cells #[.int .i64 k', .int .i64 0, .int .i64 0, .int .i64 n', .int .u64 0, .slice none 0 0] 39))
    exact h2
  · exact (((((((((Upd.refl (fun k => k = b) w).setCell (p := ⟨b, 1, none⟩) (.inl rfl) _).setCell (p := ⟨b, 2, none⟩) (.inl rfl) _).setCell (p := ⟨b, 3, none⟩) (.inl rfl) _).setCell (p := ⟨b, 4, none⟩) (.inl rfl) _).setCell (p := ⟨b, 5, none⟩) (.inl rfl) _).setCell (p := ⟨b, 6, none⟩) (.inl rfl) _).setCell (p := ⟨b, 7, none⟩) (.inl rfl) _).alloc _)

set_option maxRecDepth 100000 in
set_option maxHeartbeats 400000 in
theorem tk_over_calls (b : Nat) (c k n : Int) (f : Value) (ep : Int) (tk : Bool) (k' n' : Int) (w : World) (h : Blk w b (tkC c k n f ep tk) 87) :
    Calls Try.prog 36 #[.pointer (some ⟨b, 0, none⟩), .agg #[.int .i64 k', .int .i64 0, .int .i64 0, .int .i64 n', .int .u64 0, .slice none 0 0], .nilFunc] w fun e w' => e = .returned (.tuple #[]) ∧ Blk w' b (tkC c k' n' (.nilFunc) ep tk) 87 ∧ Upd (fun k => k = b) w w' := by
  have hc := h.cell
  have hf := h.frozen
  have hlt := h.lt
  have hb := Lib.hid h
  unfold tkC at hc
  clear h
  go_enter Try.func36, Try.ntmps36
  go_wp2_with fail
  go_end0
  refine ⟨rfl, ?_, ?_⟩
  · have h2 := ((((((((hb.out.setCell 1 (.int .i64 k')).setCell 2 (.int .i64 0)).setCell 3 (.int .i64 0)).setCell 4 (.int .i64 n')).setCell 5 (.int .u64 0)).setCell 6 (.slice none 0 0)).setCell 7 (.nilFunc)).alloc (.cells #[.int .i64 k', .int .i64 0, .int .i64 0, .int .i64 n', .int .u64 0, .slice none 0 0] 39))
    exact h2
  · exact (((((((((Upd.refl (fun k => k = b) w).setCell (p := ⟨b, 1, none⟩) (.inl rfl) _).setCell (p := ⟨b, 2, none⟩) (.inl rfl) _).setCell (p := ⟨b, 3, none⟩) (.inl rfl) _).setCell (p := ⟨b, 4, none⟩) (.inl rfl) _).setCell (p := ⟨b, 5, none⟩) (.inl rfl) _).setCell (p := ⟨b, 6, none⟩) (.inl rfl) _).setCell (p := ⟨b, 7, none⟩) (.inl rfl) _).alloc _)

/-- What its result comes to. -/
def tkF : Nat → Value
  | 1 => .func (.func 37) #[] #[]
  | 2 => .func (.func 72) #[] #[]
  | 3 => .func (.func 100) #[] #[]
  | 4 => .func (.func 113) #[] #[]
  | _ => .nilFunc
/-- The tick at b. -/
def TkAt (w : World) (b : Nat) (T : MemF.Tk) : Prop := Blk w b (tkC T.clients T.kind T.n (tkF T.next) T.epoch T.took) 87

set_option maxRecDepth 100000 in
set_option maxHeartbeats 400000 in
theorem tk_new_calls (c : Int) (w : World) (h1 : 1 ≤ c) (h8 : c ≤ 8) :
    Calls Try.prog 11 #[.agg #[.int .i64 5, .string ⟨#[]⟩, .string ⟨#[]⟩, .int .i64 0], .int .i64 c] w fun e w' => ∃ b, e = .returned (.tuple #[.pointer (some ⟨b, 0, none⟩), .int .i64 0]) ∧ TkAt w' b (MemF.Tk.new c) ∧ w.heap.size ≤ b ∧ Below w.heap.size w w' := by
  have hb0 : Blk ((w.alloc (.cells #[.int .i64 5, .string ⟨#[]⟩, .string ⟨#[]⟩, .int .i64 0] 35)).alloc (.cells #[.int .i64 c, .int .i64 0, .int .i64 0, .int .i64 0, .int .i64 0, .int .u64 0, .slice none 0 0, .nilFunc, .int .i64 0, .bool false] 87)) (w.heap.size + 1) (tkC c 0 0 .nilFunc 0 false) 87 := by
    have h := Blk.new (w.alloc (.cells #[.int .i64 5, .string ⟨#[]⟩, .string ⟨#[]⟩, .int .i64 0] 35)) (tkC c 0 0 .nilFunc 0 false) 87
    rw [show (w.alloc (.cells #[.int .i64 5, .string ⟨#[]⟩, .string ⟨#[]⟩, .int .i64 0] 35)).heap.size = w.heap.size + 1 by simp] at h
    exact h
  have hB : Below w.heap.size w ((w.alloc (.cells #[.int .i64 5, .string ⟨#[]⟩, .string ⟨#[]⟩, .int .i64 0] 35)).alloc (.cells #[.int .i64 c, .int .i64 0, .int .i64 0, .int .i64 0, .int .i64 0, .int .u64 0, .slice none 0 0, .nilFunc, .int .i64 0, .bool false] 87)) :=
    ((Below.refl _ w).alloc (Nat.le_refl _) _).alloc (by simp) _
  have hw := tk_wants_calls _ _ _ _ _ _ _ 7 0 37 _ hb0
  replace hb0 := Lib.hid hb0
  replace hB := Lib.hid hB
  go_enter Try.func11, Try.ntmps11
  go_wp2_with fail
  refine hw.mono ?_
  rintro e w1 ⟨rfl, hb1, hu1⟩
  replace hb1 := Lib.hid hb1
  replace hu1 := Lib.hid hu1
  clear hw
  go_wp2_with fail
  go_ret2
  refine ⟨w.heap.size + 1, rfl, hb1.out, by omega, hB.out.trans (hu1.out.below (by simp; omega) fun k hk e => by omega)⟩

set_option maxRecDepth 100000 in
set_option maxHeartbeats 400000 in
theorem tk_next_calls (b : Nat) (T : MemF.Tk) (w : World) (h : TkAt w b T) (hn : T.next ≤ 4) :
    Calls Try.prog 12 #[.pointer (some ⟨b, 0, none⟩)] w fun e w' => e = .returned (.tuple #[.agg #[.int .i64 (if T.next = 0 then 0 else T.kind), .int .i64 0, .int .i64 0, .int .i64 (if T.next = 0 then 0 else T.n), .int .u64 0, .slice none 0 0], .bool (decide (T.next ≠ 0))]) ∧ Below w.heap.size w w' := by
  have hc := h.cell
  have hlt := h.lt
  unfold tkC at hc
  obtain ⟨c, k, n, nx, ep, tk⟩ := T
  simp only at hc hn ⊢
  have q1 := fun (w : World) (f : Fn) (a b : Array Value) => run_eql_func (P := Try.prog) (t := 85) w Try.underlying85 f a b
  have q2 := fun (w : World) => run_eql_nilfunc (P := Try.prog) (t := 85) w Try.underlying85
  clear h
  match nx, hn with
  | 0, _ =>
    simp only [tkF] at hc
    go_enter Try.func12, Try.ntmps12
    go_wp2_with fail
    exact bodyPost_ret (v := .tuple #[.agg #[.int .i64 0, .int .i64 0, .int .i64 0, .int .i64 0, .int .u64 0, .slice none 0 0], .bool false]) (by simp [results, Try.results12, go_sem]) rfl ⟨by simp, (Below.refl _ w).alloc (Nat.le_refl _) _⟩
  | 1, _ | 2, _ | 3, _ | 4, _ =>
    simp only [tkF] at hc
    go_enter Try.func12, Try.ntmps12
    go_wp2_with fail
    exact bodyPost_ret (v := .tuple #[.agg #[.int .i64 k, .int .i64 0, .int .i64 0, .int .i64 n, .int .u64 0, .slice none 0 0], .bool true]) (by simp [results, Try.results12, go_sem]) rfl ⟨by simp, (Below.refl _ w).alloc (Nat.le_refl _) _⟩

/-- What a step of the tick leaves. -/
def TkStep (w : World) (b : Nat) (T' : MemF.Tk) (e : Ending) (w' : World) : Prop := e = .returned (.tuple #[]) ∧ TkAt w' b T' ∧ Upd (fun k => k = b) w w'
theorem TkStep.of {w w0 : World} {b : Nat} {T' : MemF.Tk} {e : Ending} {w' : World} (h0 : Upd (fun k => k = b) w w0) (h : TkStep w0 b T' e w') : TkStep w b T' e w' := ⟨h.1, h.2.1, h0.trans h.2.2 fun _ _ h => h⟩

set_option maxRecDepth 100000 in
set_option maxHeartbeats 400000 in
theorem tk_collect_calls (b : Nat) (c k n : Int) (f : Value) (ep : Int) (tk : Bool) (w : World) (h : Blk w b (tkC c k n f ep tk) 87) :
    Calls Try.prog 99 #[.pointer (some ⟨b, 0, none⟩)] w fun e w' => e = .returned (.tuple #[]) ∧ Blk w' b (tkC c 12 0 (tkF 4) ep tk) 87 ∧ Upd (fun k => k = b) w w' := by
  have hw := tk_wants_calls _ _ _ _ _ _ _ 12 0 113 _ h
  clear h
  go_enter Try.func99, Try.ntmps99
  go_wp2_with fail
  refine hw.mono ?_
  rintro e w1 ⟨rfl, hb1, hu1⟩
  replace hb1 := Lib.hid hb1
  replace hu1 := Lib.hid hu1
  clear hw
  go_wp2_with fail
  go_end0
  exact ⟨rfl, hb1.out, hu1.out⟩

set_option maxRecDepth 100000 in
set_option maxHeartbeats 400000 in
theorem tk_atAdvance_calls (b : Nat) (c k n : Int) (f : Value) (ep : Int) (tk : Bool) (er rn : Int) (ok : Bool) (p : Option Addr) (N cp : Nat) (w : World) (h : Blk w b (tkC c k n f ep tk) 87) :
    Calls Try.prog 100 #[.pointer (some ⟨b, 0, none⟩), .agg #[.int .i64 er, .int .i64 rn, .bool ok, .slice p N cp]] w fun e w' => e = .returned (.tuple #[]) ∧ Blk w' b (tkC c 12 0 (tkF 4) ep tk) 87 ∧ Upd (fun k => k = b) w w' := by
  have h0 : Blk (w.alloc (.cells #[.int .i64 er, .int .i64 rn, .bool ok, .slice p N cp] 44)) b (tkC c k n f ep tk) 87 := h.alloc _
  have hw := tk_collect_calls _ _ _ _ _ _ _ _ h0
  have hw' := tk_collect_calls _ _ _ _ _ _ _ _ h
  clear h h0
  go_enter Try.func100, Try.ntmps100
  go_wp2_with fail
  first
    | (refine hw.mono ?_
       rintro e w1 ⟨rfl, hb1, hu1⟩
       replace hb1 := Lib.hid hb1
       replace hu1 := Lib.hid hu1
       clear hw hw'
       go_wp2_with fail
       go_end0
       exact ⟨rfl, hb1.out, ((Upd.refl _ w).alloc _).trans hu1.out fun _ _ h => h⟩)
    | (refine hw'.mono ?_
       rintro e w1 ⟨rfl, hb1, hu1⟩
       replace hb1 := Lib.hid hb1
       replace hu1 := Lib.hid hu1
       clear hw hw'
       go_wp2_with fail
       go_end0
       exact ⟨rfl, hb1.out, hu1.out⟩)

set_option maxRecDepth 100000 in
set_option maxHeartbeats 400000 in
theorem tk_atCollect_calls (b : Nat) (c k n : Int) (f : Value) (ep : Int) (tk : Bool) (er rn : Int) (ok : Bool) (p : Option Addr) (N cp : Nat) (w : World) (h : Blk w b (tkC c k n f ep tk) 87) :
    Calls Try.prog 113 #[.pointer (some ⟨b, 0, none⟩), .agg #[.int .i64 er, .int .i64 rn, .bool ok, .slice p N cp]] w fun e w' => e = .returned (.tuple #[]) ∧ Blk w' b (if ok then tkC c k n f ep tk else tkC c 0 0 .nilFunc ep true) 87 ∧ Upd (fun k => k = b) w w' := by
  have h0 : Blk ((w.setCell ⟨b, 9, none⟩ (.bool true)).alloc (.cells #[.int .i64 er, .int .i64 rn, .bool ok, .slice p N cp] 44)) b (tkC c k n f ep true) 87 := (h.setCell 9 (.bool true)).alloc _
  have hw := tk_over_calls _ _ _ _ _ _ _ 0 0 _ h0
  have hc := h.cell
  have hf := h.frozen
  have hlt := h.lt
  unfold tkC at hc
  have hk := Lib.hid (h.alloc (.cells #[.int .i64 er, .int .i64 rn, .bool ok, .slice p N cp] 44))
  clear h h0
  cases ok with
  | true =>
    go_enter Try.func113, Try.ntmps113
    go_wp2_with fail
    (try simp only [Exit.inBlock, Exit.then]); refine bodyPost_ret (results_none rfl _ _ _) rfl ?_
    exact ⟨rfl, hk.out, (Upd.refl _ w).alloc _⟩
  | false =>
    go_enter Try.func113, Try.ntmps113
    go_wp2_with fail
    refine hw.mono ?_
    rintro e w1 ⟨rfl, hb1, hu1⟩
    replace hb1 := Lib.hid hb1
    replace hu1 := Lib.hid hu1
    clear hw
    go_wp2_with fail
    go_end0
    exact ⟨rfl, hb1.out, (((Upd.refl (fun k => k = b) w).setCell (p := ⟨b, 9, none⟩) (.inl rfl) _).alloc _).trans hu1.out fun _ _ h => h⟩

set_option maxRecDepth 100000 in
set_option maxHeartbeats 400000 in
theorem tk_atEpoch_calls (b : Nat) (c k n : Int) (f : Value) (ep : Int) (tk : Bool) (er rn : Int) (ok : Bool) (p : Option Addr) (N cp : Nat) (w : World) (h : Blk w b (tkC c k n f ep tk) 87) :
    Calls Try.prog 37 #[.pointer (some ⟨b, 0, none⟩), .agg #[.int .i64 er, .int .i64 rn, .bool ok, .slice p N cp]] w fun e w' => e = .returned (.tuple #[]) ∧ Blk w' b (tkC c 10 0 (tkF 2) rn tk) 87 ∧ Upd (fun k => k = b) w w' := by
  have h0 : Blk ((w.setCell ⟨b, 8, none⟩ (.int .i64 rn)).alloc (.cells #[.int .i64 er, .int .i64 rn, .bool ok, .slice p N cp] 44)) b (tkC c k n f rn tk) 87 := (h.setCell 8 (.int .i64 rn)).alloc _
  have hw := tk_wants_calls _ _ _ _ _ _ _ 10 0 72 _ h0
  have hc := h.cell
  have hf := h.frozen
  have hlt := h.lt
  unfold tkC at hc
  clear h h0
  go_enter Try.func37, Try.ntmps37
  go_wp2_with fail
  refine hw.mono ?_
  rintro e w1 ⟨rfl, hb1, hu1⟩
  replace hb1 := Lib.hid hb1
  replace hu1 := Lib.hid hu1
  clear hw
  go_wp2_with fail
  go_end0
  exact ⟨rfl, hb1.out, (((Upd.refl (fun k => k = b) w).setCell (p := ⟨b, 8, none⟩) (.inl rfl) _).alloc _).trans hu1.out fun _ _ h => h⟩

/-- What atPin comes to: kind, number, what is next. -/
def pinNext (c n ep rn : Int) : Int × Int × Nat := if 0 ≤ rn ∧ rn ≠ ep then (12, 0, 4) else if n + 1 < c then (10, n + 1, 2) else (11, ep, 3)
set_option maxRecDepth 100000 in
set_option maxHeartbeats 400000 in
theorem tk_atPin_calls (b : Nat) (c k n : Int) (f : Value) (ep : Int) (tk : Bool) (er rn : Int) (ok : Bool) (p : Option Addr) (N cp : Nat) (w : World) (h : Blk w b (tkC c k n f ep tk) 87) (hn0 : 0 ≤ n) (hn8 : n < 8) :
    Calls Try.prog 72 #[.pointer (some ⟨b, 0, none⟩), .agg #[.int .i64 er, .int .i64 rn, .bool ok, .slice p N cp]] w fun e w' => e = .returned (.tuple #[]) ∧ Blk w' b (tkC c (pinNext c n ep rn).1 (pinNext c n ep rn).2.1 (tkF (pinNext c n ep rn).2.2) ep tk) 87 ∧ Upd (fun k => k = b) w w' := by
  have h0 : Blk (w.alloc (.cells #[.int .i64 er, .int .i64 rn, .bool ok, .slice p N cp] 44)).drew b (tkC c k n f ep tk) 87 := (h.alloc _).drew
  have hc := h.cell
  have hf := h.frozen
  have hlt := h.lt
  have hP : pinNext c n ep rn = if 0 ≤ rn ∧ rn ≠ ep then (12, 0, 4) else if n + 1 < c then (10, n + 1, 2) else (11, ep, 3) := rfl
  unfold tkC at hc
  have hfin : ∀ w1 : World, Upd (fun k => k = b) (w.alloc (.cells #[.int .i64 er, .int .i64 rn, .bool ok, .slice p N cp] 44)).drew w1 → Upd (fun k => k = b) w w1 := fun w1 hu => (((Upd.refl _ w).alloc _).drew).trans hu fun _ _ h => h
  replace hfin := Lib.hid hfin
  have hn1 : n + 1 ≤ 8 := by omega
  by_cases hr : 0 ≤ rn ∧ rn ≠ ep
  · rw [if_pos hr] at hP
    rw [hP]
    have hw := tk_collect_calls _ _ _ _ _ _ _ _ h0
    obtain ⟨hr0, hr1⟩ := hr
    have hr1' : (rn != ep) = true := by simpa using hr1
    clear h h0 hP hr1
    go_enter Try.func72, Try.ntmps72
    go_wp2_with fail
    refine undraw ?hB1 ?_
    case hB1 => kernel_rfl
    intro K1 hK1
    simp only [Undraw.withAsks, Undraw.asksOf, Undraw.intsOf, Undraw.strsOf, List.contains, List.elem, Nat.reduceBEq, if_true, List.map_nil, List.map_cons, List.nil_append, List.append_nil, List.cons_append]
    go_wp2_with fail
    refine hw.mono ?_
    rintro e w1 ⟨rfl, hb1, hu1⟩
    replace hb1 := Lib.hid hb1
    replace hu1 := Lib.hid hu1
    clear hw
    go_wp2_with fail
    go_end0
    exact ⟨rfl, hb1.out, hfin.out _ hu1.out⟩
  · rw [if_neg hr] at hP
    have hcase : rn < 0 ∨ (0 ≤ rn ∧ rn = ep) := by
      rcases Int.lt_or_le rn 0 with h | h
      · exact .inl h
      · exact .inr ⟨h, Classical.byContradiction fun e => hr ⟨h, e⟩⟩
    clear hr
    by_cases hlt2 : n + 1 < c
    · rw [if_pos hlt2] at hP
      rw [hP]
      have hw := tk_wants_calls _ _ _ _ _ _ _ 10 (n + 1) 72 _ h0
      clear h h0 hP
      rcases hcase with hneg | ⟨hr0, hr1⟩
      · go_enter Try.func72, Try.ntmps72
        go_wp2_with fail
        refine undraw ?hB2 ?_
        case hB2 => kernel_rfl
        intro K2 hK2
        simp only [Undraw.withAsks, Undraw.asksOf, Undraw.intsOf, Undraw.strsOf, List.contains, List.elem, Nat.reduceBEq, if_true, List.map_nil, List.map_cons, List.nil_append, List.append_nil, List.cons_append]
        go_wp2_with fail
        refine hw.mono ?_
        rintro e w1 ⟨rfl, hb1, hu1⟩
        replace hb1 := Lib.hid hb1
        replace hu1 := Lib.hid hu1
        clear hw
        go_wp2_with fail
        go_end0
        exact ⟨rfl, hb1.out, hfin.out _ hu1.out⟩
      · have hr1' : (rn != ep) = false := by simpa using hr1
        clear hr1
        go_enter Try.func72, Try.ntmps72
        go_wp2_with fail
        refine undraw ?hB3 ?_
        case hB3 => kernel_rfl
        intro K3 hK3
        simp only [Undraw.withAsks, Undraw.asksOf, Undraw.intsOf, Undraw.strsOf, List.contains, List.elem, Nat.reduceBEq, if_true, List.map_nil, List.map_cons, List.nil_append, List.append_nil, List.cons_append]
        go_wp2_with fail
        refine hw.mono ?_
        rintro e w1 ⟨rfl, hb1, hu1⟩
        replace hb1 := Lib.hid hb1
        replace hu1 := Lib.hid hu1
        clear hw
        go_wp2_with fail
        go_end0
        exact ⟨rfl, hb1.out, hfin.out _ hu1.out⟩
    · rw [if_neg hlt2] at hP
      rw [hP]
      have hw := tk_wants_calls _ _ _ _ _ _ _ 11 ep 100 _ h0
      clear h h0 hP
      rcases hcase with hneg | ⟨hr0, hr1⟩
      · go_enter Try.func72, Try.ntmps72
        go_wp2_with fail
        refine undraw ?hB4 ?_
        case hB4 => kernel_rfl
        intro K4 hK4
        simp only [Undraw.withAsks, Undraw.asksOf, Undraw.intsOf, Undraw.strsOf, List.contains, List.elem, Nat.reduceBEq, if_true, List.map_nil, List.map_cons, List.nil_append, List.append_nil, List.cons_append]
        go_wp2_with fail
        refine hw.mono ?_
        rintro e w1 ⟨rfl, hb1, hu1⟩
        replace hb1 := Lib.hid hb1
        replace hu1 := Lib.hid hu1
        clear hw
        go_wp2_with fail
        go_end0
        exact ⟨rfl, hb1.out, hfin.out _ hu1.out⟩
      · have hr1' : (rn != ep) = false := by simpa using hr1
        clear hr1
        go_enter Try.func72, Try.ntmps72
        go_wp2_with fail
        refine undraw ?hB5 ?_
        case hB5 => kernel_rfl
        intro K5 hK5
        simp only [Undraw.withAsks, Undraw.asksOf, Undraw.intsOf, Undraw.strsOf, List.contains, List.elem, Nat.reduceBEq, if_true, List.map_nil, List.map_cons, List.nil_append, List.append_nil, List.cons_append]
        go_wp2_with fail
        refine hw.mono ?_
        rintro e w1 ⟨rfl, hb1, hu1⟩
        replace hb1 := Lib.hid hb1
        replace hu1 := Lib.hid hu1
        clear hw
        go_wp2_with fail
        go_end0
        exact ⟨rfl, hb1.out, hfin.out _ hu1.out⟩

set_option maxRecDepth 100000 in
set_option maxHeartbeats 1000000 in
theorem tk_got_calls (b : Nat) (T : MemF.Tk) (er rn : Int) (ok : Bool) (p : Option Addr) (N cp : Nat) (w : World) (h : TkAt w b T) (hn : T.next ≤ 4) (hn2 : T.next = 2 → 0 ≤ T.n ∧ T.n < 8) :
    Calls Try.prog 13 #[.pointer (some ⟨b, 0, none⟩), .agg #[.int .i64 er, .int .i64 rn, .bool ok, .slice p N cp]] w fun e w' => e = .returned (.tuple #[]) ∧ TkAt w' b (T.got rn ok) ∧ Upd (fun k => k = b) w w' := by
  obtain ⟨T', hT⟩ : ∃ T', T.got rn ok = T' := ⟨_, rfl⟩
  rw [hT]
  unfold TkAt at h
  obtain ⟨c, k, n, nx, ep, tk⟩ := T
  unfold MemF.Tk.got MemF.Tk.collect at hT
  simp only at h hn hn2 hT
  replace hT := Lib.hid hT
  have hc := h.cell
  have hf := h.frozen
  have hlt := h.lt
  have h0 : Blk ((w.setCell ⟨b, 9, none⟩ (.bool false)).alloc (.cells #[.int .i64 er, .int .i64 rn, .bool ok, .slice p N cp] 44)) b (tkC c k n (tkF nx) ep false) 87 := (h.setCell 9 (.bool false)).alloc _
  have h1 : Blk ((w.setCell ⟨b, 9, none⟩ (.bool false)).alloc (.cells #[.int .i64 er, .int .i64 rn, .bool ok, .slice p N cp] 44)).drew b (tkC c k n (tkF nx) ep false) 87 := h0.drew
  have hu0 : Upd (fun k => k = b) w ((w.setCell ⟨b, 9, none⟩ (.bool false)).alloc (.cells #[.int .i64 er, .int .i64 rn, .bool ok, .slice p N cp] 44)) := (((Upd.refl (fun k => k = b) w).setCell (p := ⟨b, 9, none⟩) (.inl rfl) _).alloc _)
  have q1 := fun (w : World) (f : Fn) (a b : Array Value) => run_neq_func (P := Try.prog) (t := 85) w Try.underlying85 f a b
  have q2 := fun (w : World) => run_neq_nilfunc (P := Try.prog) (t := 85) w Try.underlying85
  replace h0 := Lib.hid h0
  replace hu0 := Lib.hid hu0
  unfold tkC at hc
  clear h
  match nx, hn with
  | 0, _ =>
    simp only [tkF] at hc
    clear h1
    go_enter Try.func13, Try.ntmps13
    go_wp2_with fail
    go_end0
    exact ⟨rfl, by rw [← hT.out]; simpa [TkAt] using h0.out, hu0.out⟩
  | 1, _ =>
    have hw := tk_atEpoch_calls _ _ _ _ _ _ _ er rn ok p N cp _ h1
    simp only [tkF] at hc
    clear h1
    go_enter Try.func13, Try.ntmps13
    go_wp2_with fail
    refine undraw ?hB11 ?_
    case hB11 => kernel_rfl
    intro K11 hK11
    simp only [Undraw.withAsks, Undraw.asksOf, Undraw.intsOf, Undraw.strsOf, List.contains, List.elem, Nat.reduceBEq, if_true, List.map_nil, List.map_cons, List.nil_append, List.append_nil, List.cons_append]
    go_wp2_with fail
    refine hw.mono ?_
    rintro e w1 ⟨rfl, hb1, hu1⟩
    replace hb1 := Lib.hid hb1
    replace hu1 := Lib.hid hu1
    clear hw
    go_wp2_with fail
    go_end0
    refine ⟨rfl, by rw [← hT.out]; simpa [TkAt] using hb1.out, (hu0.out.drew).trans hu1.out fun _ _ h => h⟩
  | 2, _ =>
    have hw := tk_atPin_calls _ _ _ _ _ _ _ er rn ok p N cp _ h1 (hn2 rfl).1 (hn2 rfl).2
    simp only [tkF] at hc
    clear h1
    go_enter Try.func13, Try.ntmps13
    go_wp2_with fail
    refine undraw ?hB12 ?_
    case hB12 => kernel_rfl
    intro K12 hK12
    simp only [Undraw.withAsks, Undraw.asksOf, Undraw.intsOf, Undraw.strsOf, List.contains, List.elem, Nat.reduceBEq, if_true, List.map_nil, List.map_cons, List.nil_append, List.append_nil, List.cons_append]
    go_wp2_with fail
    refine hw.mono ?_
    rintro e w1 ⟨rfl, hb1, hu1⟩
    replace hb1 := Lib.hid hb1
    replace hu1 := Lib.hid hu1
    clear hw
    go_wp2_with fail
    go_end0
    refine ⟨rfl, ?_, (hu0.out.drew).trans hu1.out fun _ _ h => h⟩
    have h9 := hb1.out
    rw [← hT.out]
    unfold TkAt
    unfold pinNext at h9
    by_cases e1 : 0 ≤ rn ∧ rn ≠ ep
    · simp only [if_pos e1] at h9 ⊢; simpa using h9
    · by_cases e2 : n + 1 < c
      · simp only [if_neg e1, if_pos e2] at h9 ⊢; simpa using h9
      · simp only [if_neg e1, if_neg e2] at h9 ⊢; simpa using h9
  | 3, _ =>
    have hw := tk_atAdvance_calls _ _ _ _ _ _ _ er rn ok p N cp _ h1
    simp only [tkF] at hc
    clear h1
    go_enter Try.func13, Try.ntmps13
    go_wp2_with fail
    refine undraw ?hB13 ?_
    case hB13 => kernel_rfl
    intro K13 hK13
    simp only [Undraw.withAsks, Undraw.asksOf, Undraw.intsOf, Undraw.strsOf, List.contains, List.elem, Nat.reduceBEq, if_true, List.map_nil, List.map_cons, List.nil_append, List.append_nil, List.cons_append]
    go_wp2_with fail
    refine hw.mono ?_
    rintro e w1 ⟨rfl, hb1, hu1⟩
    replace hb1 := Lib.hid hb1
    replace hu1 := Lib.hid hu1
    clear hw
    go_wp2_with fail
    go_end0
    refine ⟨rfl, by rw [← hT.out]; simpa [TkAt] using hb1.out, (hu0.out.drew).trans hu1.out fun _ _ h => h⟩
  | 4, _ =>
    have hw := tk_atCollect_calls _ _ _ _ _ _ _ er rn ok p N cp _ h1
    simp only [tkF] at hc
    clear h1
    go_enter Try.func13, Try.ntmps13
    go_wp2_with fail
    refine undraw ?hB14 ?_
    case hB14 => kernel_rfl
    intro K14 hK14
    simp only [Undraw.withAsks, Undraw.asksOf, Undraw.intsOf, Undraw.strsOf, List.contains, List.elem, Nat.reduceBEq, if_true, List.map_nil, List.map_cons, List.nil_append, List.append_nil, List.cons_append]
    go_wp2_with fail
    refine hw.mono ?_
    rintro e w1 ⟨rfl, hb1, hu1⟩
    replace hb1 := Lib.hid hb1
    replace hu1 := Lib.hid hu1
    clear hw
    go_wp2_with fail
    go_end0
    refine ⟨rfl, ?_, (hu0.out.drew).trans hu1.out fun _ _ h => h⟩
    have h9 := hb1.out
    rw [← hT.out]
    cases ok
    · simpa [TkAt, tkF] using h9
    · simpa [TkAt] using h9
end Go.Proofs.Ytpobpijjpbggoaa
