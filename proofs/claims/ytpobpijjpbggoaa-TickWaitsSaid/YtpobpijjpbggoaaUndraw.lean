/- A region that draws its order is carried out as its text stands: one law for all regions in which operations that are not ordered by the text either leave memory alone, or one of the two hangs on its operands alone. -/
import Derived.Orders
import Derived.Tactics
import Derived.Laws.Sem
set_option linter.unusedSimpArgs false
set_option linter.unusedVariables false
namespace Go.Undraw
open Go

/-- The computation leaves the world alone, and what it gives hangs on no world. -/
structure Det (P : Program) {α : Type} (s : Sem α) : Prop where
  out : ∀ w w' x, s.run P w = .ok x w' → w' = w ∧ ∀ w'', s.run P w'' = .ok x w''
/-- The computation leaves the world alone, and gives the same where a block more lies behind. -/
structure Quiet (P : Program) {α : Type} (s : Sem α) : Prop where
  out : ∀ w w' x, s.run P w = .ok x w' → w' = w ∧ ∀ o, s.run P (w.alloc o) = .ok x (w.alloc o)
/-- The computation never comes to an answer. -/
structure Never (P : Program) {α : Type} (s : Sem α) : Prop where
  out : ∀ w w' x, s.run P w ≠ .ok x w'

section
variable {P : Program} {α β : Type}

theorem Det.quiet {s : Sem α} (h : Det P s) : Quiet P s := ⟨fun w w' x hx => ⟨(h.out w w' x hx).1, fun o => (h.out w w' x hx).2 _⟩⟩
theorem Never.det {s : Sem α} (h : Never P s) : Det P s := ⟨fun w w' x hx => absurd hx (h.out w w' x)⟩

theorem det_pure (a : α) : Det P (pure a : Sem α) := by
  constructor; intro w w' x h
  simp only [Sem.run_pure, Result.ok.injEq] at h ⊢
  exact ⟨h.2.symm, fun w'' => ⟨h.1, trivial⟩⟩
theorem det_pure' (a : α) : Det P (Sem.pure a) := det_pure a
theorem never_halt (x : Halt) : Never P (Sem.halt x : Sem α) := by constructor; intro w w' y h; simp at h
theorem det_halt (x : Halt) : Det P (Sem.halt x : Sem α) := (never_halt x).det
theorem det_program : Det P program := by
  constructor; intro w w' x h
  simp only [program, Sem.run, Result.ok.injEq] at h ⊢
  exact ⟨h.2.symm, fun w'' => ⟨h.1, trivial⟩⟩

theorem andThen_ok {r : Result α} {f : α → World → Result β} {b : β} {w' : World} (h : r.andThen f = .ok b w') : ∃ a w1, r = .ok a w1 ∧ f a w1 = .ok b w' := by
  cases r with
  | ok a w1 => exact ⟨a, w1, rfl, h⟩
  | halt x w1 => simp at h

theorem det_bind {s : Sem α} {f : α → Sem β} (hs : Det P s) (hf : ∀ a, Det P (f a)) : Det P (s >>= f) := by
  constructor; intro w w' x h
  rw [Sem.run_bind] at h
  obtain ⟨a, w1, h1, h2⟩ := andThen_ok h
  obtain ⟨rfl, h3⟩ := hs.out _ _ _ h1
  obtain ⟨rfl, h4⟩ := (hf a).out _ _ _ h2
  exact ⟨rfl, fun w'' => by rw [Sem.run_bind, h3 w'', Result.andThen_ok, h4 w'']⟩
theorem quiet_bind {s : Sem α} {f : α → Sem β} (hs : Quiet P s) (hf : ∀ a, Quiet P (f a)) : Quiet P (s >>= f) := by
  constructor; intro w w' x h
  rw [Sem.run_bind] at h
  obtain ⟨a, w1, h1, h2⟩ := andThen_ok h
  obtain ⟨rfl, h3⟩ := hs.out _ _ _ h1
  obtain ⟨rfl, h4⟩ := (hf a).out _ _ _ h2
  exact ⟨rfl, fun o => by rw [Sem.run_bind, h3 o, Result.andThen_ok, h4 o]⟩
theorem never_bind {s : Sem α} {f : α → Sem β} (hf : ∀ a, Never P (f a)) : Never P (s >>= f) := by
  constructor; intro w w' x h
  rw [Sem.run_bind] at h
  obtain ⟨a, w1, h1, h2⟩ := andThen_ok h
  exact (hf a).out _ _ _ h2
theorem never_bind_left {s : Sem α} {f : α → Sem β} (hs : Never P s) : Never P (s >>= f) := by
  constructor; intro w w' x h
  rw [Sem.run_bind] at h
  obtain ⟨a, w1, h1, h2⟩ := andThen_ok h
  exact hs.out _ _ _ h1
theorem det_map {s : Sem α} {f : α → β} (hs : Det P s) : Det P (f <$> s) := by
  rw [← bind_pure_comp]; exact det_bind hs fun _ => det_pure _
theorem det_ite {c : Prop} [Decidable c] {x y : Sem α} (hx : Det P x) (hy : Det P y) : Det P (if c then x else y) := by split <;> assumption
theorem quiet_ite {c : Prop} [Decidable c] {x y : Sem α} (hx : Quiet P x) (hy : Quiet P y) : Quiet P (if c then x else y) := by split <;> assumption

theorem det_typeInfo (t : TypeId) : Det P (typeInfo t) := by
  unfold typeInfo
  refine det_bind det_program fun p => ?_
  cases p.info? t <;> first | exact det_pure _ | exact det_halt _
theorem det_underlying (t : TypeId) : Det P (underlying t) := by
  unfold underlying
  refine det_bind det_program fun p => ?_
  cases p.underlying t <;> first | exact det_pure _ | exact det_halt _
theorem det_underlying_then {t : TypeId} {D : TypeDesc} {f : TypeDesc → Sem β} (hu : P.underlying t = some D) (h : Det P (f D)) : Det P (underlying t >>= f) := by
  have key : ∀ w, (underlying t).run P w = .ok D w := fun w => by simp [underlying, program, Sem.run, hu]
  constructor; intro w w' r hr
  rw [Sem.run_bind, key, Result.andThen_ok] at hr
  refine ⟨(h.out _ _ _ hr).1, fun w'' => ?_⟩
  rw [Sem.run_bind, key, Result.andThen_ok]
  exact (h.out _ _ _ hr).2 w''
theorem det_underlying_none {t : TypeId} {f : TypeDesc → Sem β} (hu : P.underlying t = none) : Det P (underlying t >>= f) := by
  constructor; intro w w' r hr
  simp [underlying, program, Sem.run, hu, stuck] at hr
theorem det_sizeOf (t : TypeId) : Det P (sizeOf t) := by
  unfold sizeOf; exact det_bind (det_typeInfo t) fun _ => det_pure _
theorem det_isAgg (t : TypeId) : Det P (isAgg t) := by
  unfold isAgg
  refine det_bind (det_underlying t) fun d => ?_
  cases d <;> exact det_pure _
theorem det_zeroValue (t : TypeId) : Det P (zeroValue t) := by
  unfold zeroValue
  refine det_bind (det_typeInfo t) fun i => ?_
  cases i.zero <;> first | exact det_pure _ | exact det_halt _
theorem det_part (t : TypeId) (cs : Array Value) (off : Nat) : Det P (part t cs off) := by
  unfold part
  refine det_bind (det_isAgg t) fun b => det_ite (det_bind (det_sizeOf t) fun _ => det_pure _) ?_
  cases cs[off]? <;> first | exact det_pure _ | exact det_halt _
theorem det_asIntOf (v : Value) : Det P (asIntOf v) := by
  unfold asIntOf
  split <;> first | exact det_pure _ | exact det_halt _
theorem det_asBool (v : Value) : Det P (asBool v) := by
  unfold asBool
  split <;> first | exact det_pure _ | exact det_halt _
theorem det_asAgg (v : Value) : Det P (asAgg v) := by
  unfold asAgg
  split <;> first | exact det_pure _ | exact det_halt _

theorem never_goPanic (v : Value) : Never P (goPanic v : Sem α) := never_halt _
theorem never_runtimePanic (e : RuntimeError) : Never P (runtimePanic e : Sem α) := by
  unfold runtimePanic
  refine never_bind fun p => ?_
  cases e <;> first | exact never_goPanic _ | (refine never_bind fun _ => ?_; first | exact never_goPanic _ | (refine never_bind fun _ => ?_; exact never_goPanic _))
theorem never_boundsPanic (k : IntKind) (x y : Int) (c : BoundsCode) : Never P (boundsPanic k x y c : Sem α) := by
  unfold boundsPanic
  dsimp only
  split <;> exact never_bind fun _ => never_runtimePanic _

theorem det_sureAddr (v : Value) : Det P (Instr.sureAddr v) := by
  unfold Instr.sureAddr
  split <;> first | exact det_pure _ | exact det_halt _

theorem det_indexAt (t : TypeId) (x i : Value) : Det P (Instr.indexAt t x i) := by
  unfold Instr.indexAt
  refine det_bind (det_asIntOf i) fun ki => ?_
  refine det_bind (det_underlying t) fun d => ?_
  dsimp only
  have hj : ∀ b l e, Det P ((fun (base : Option Addr) (len : Nat) (elem : TypeId) => (do
        let __do_lift ← underlying t
        match base with
        | some a => if 0 ≤ ki.2 ∧ ki.2 < (len : Int) then (do pure (.pointer (some (a.add (ki.2.toNat * (← sizeOf elem)))))) else
            if (decide (len ≤ 1) && (match __do_lift with | .array .. => true | _ => false)) = true then unsupported (.noEntry "op/indexAddr.an index out of range at an array of length 0 or 1 (ledger 616)") else boundsPanic ki.1 ki.2 len .index
        | none => boundsPanic ki.1 ki.2 0 .index : Sem Value)) b l e) := by
    intro b l e
    refine det_bind (det_underlying t) fun d => ?_
    cases b with
    | some a => exact det_ite (det_bind (det_sizeOf _) fun _ => det_pure _) (det_ite (det_halt _) (never_boundsPanic ..).det)
    | none => exact (never_boundsPanic ..).det
  split
  · exact det_bind (det_sureAddr _) fun _ => det_bind (det_pure _) fun b => hj _ _ _
  · exact det_bind (det_pure _) fun b => hj _ _ _
  · exact det_bind (det_halt _) fun b => hj _ _ _

theorem det_sliceBound (x : Value) (y : Nat) (c : BoundsCode) : Det P (Instr.sliceBound x y c) := by
  unfold Instr.sliceBound
  refine det_bind (det_asIntOf x) fun ki => det_ite (det_pure _) (never_boundsPanic ..).det
theorem det_sliceBounds (b : Bool) (l c : Nat) (lo hi mx : Option Value) : Det P (Instr.sliceBounds b l c lo hi mx) := by
  unfold Instr.sliceBounds
  cases lo <;> cases hi <;> cases mx <;> dsimp only <;>
    (repeat' first | exact det_pure _ | exact det_halt _ | exact det_sliceBound .. | (refine det_bind ?_ fun _ => ?_))
theorem det_asAddr (v : Value) : Det P (asAddr v) := by
  unfold asAddr
  split <;> first | exact det_pure _ | exact det_halt _ | exact (never_runtimePanic _).det
theorem det_slice (t : TypeId) (x : Value) (lo hi mx : Option Value) : Det P (Instr.slice t x lo hi mx) := by
  unfold Instr.slice
  refine det_bind (det_underlying t) fun d => ?_
  split
  · dsimp only
    split <;> (repeat' first | exact det_pure _ | exact det_halt _ | exact det_sliceBounds .. | (refine det_bind ?_ fun _ => ?_))
  · exact det_bind (det_sliceBounds ..) fun _ => det_bind (det_sizeOf _) fun _ => det_pure _
  · refine det_bind (det_asAddr _) fun _ => det_bind (det_underlying _) fun d => ?_
    split
    · exact det_bind (det_sliceBounds ..) fun _ => det_bind (det_sizeOf _) fun _ => det_pure _
    · exact det_halt _
  · exact det_halt _
theorem det_sliceAt (t : TypeId) (x : Value) (lo hi mx : Option Value) : Det P (Instr.sliceAt t x lo hi mx) := by
  unfold Instr.sliceAt
  refine det_bind (det_underlying t) fun d => ?_
  split
  · exact det_bind (det_sureAddr _) fun _ => det_bind (det_sliceBounds ..) fun _ => det_bind (det_sizeOf _) fun _ => det_pure _
  · exact det_slice ..
theorem det_field (t : TypeId) (x : Value) (f : Nat) : Det P (Instr.field t x f) := by
  unfold Instr.field
  refine det_bind (det_underlying t) fun d => ?_
  split
  · split
    · exact det_bind (det_asAgg _) fun _ => det_part ..
    · exact det_halt _
  · exact det_halt _
theorem det_index (t : TypeId) (x i : Value) : Det P (Instr.index t x i) := by
  unfold Instr.index
  refine det_bind (det_asIntOf i) fun ki => det_bind (det_underlying t) fun d => ?_
  split
  · exact det_ite (det_bind (det_sizeOf _) fun _ => det_part ..) (never_boundsPanic ..).det
  · split <;> first | exact det_pure _ | exact (never_boundsPanic ..).det
  · exact det_halt _
theorem det_extract (v : Value) (i : Nat) : Det P (Instr.extract v i) := by
  unfold Instr.extract
  split
  · split <;> first | exact det_pure _ | exact det_halt _
  · exact det_halt _

theorem det_unary (op : UnOp) (x : Value) : Det P (Op.unary op x) := by
  unfold Op.unary
  split
  · exact det_pure _
  · exact det_pure _
  · exact det_pure _
  · exact det_pure _
  · exact det_pure _
  · exact det_halt _
  · exact det_halt _
  · exact det_halt _
theorem det_intArith (op : BinOp) (k : IntKind) (x y : Int) : Det P (Op.intArith op k x y) := by
  unfold Op.intArith
  split <;> first | exact det_pure _ | exact det_halt _
theorem det_intBits (op : BinOp) (k : IntKind) (x y : Int) : Det P (Op.intBits op k x y) := by
  unfold Op.intBits
  dsimp only
  split <;> first | exact det_pure _ | exact det_halt _
theorem det_intCmp (op : BinOp) (x y : Int) : Det P (Op.intCmp op x y) := by
  unfold Op.intCmp
  split <;> first | exact det_pure _ | exact det_halt _
theorem det_intDiv (op : BinOp) (k : IntKind) (x y : Int) : Det P (Op.intDiv op k x y) := by
  unfold Op.intDiv
  refine det_ite (never_runtimePanic _).det ?_
  split <;> first | exact det_pure _ | exact det_halt _
theorem det_shift (op : BinOp) (k j : IntKind) (x y : Int) : Det P (Op.shift op k x j y) := by
  unfold Op.shift
  refine det_ite (never_runtimePanic _).det ?_
  dsimp only
  split <;> first | exact det_pure _ | exact det_halt _
theorem det_stringOp (op : BinOp) (x y : ByteArray) : Det P (Op.stringOp op x y) := by
  unfold Op.stringOp
  dsimp only
  split
  · exact det_ite (det_halt _) (det_pure _)
  all_goals first | exact det_pure _ | exact det_halt _
theorem det_binOp_int (op : BinOp) (t : TypeId) (k j : IntKind) (x y : Int) : Det P (binOp op t (.int k x) (.int j y)) := by
  cases op <;> simp only [binOp] <;> first | exact det_shift .. | exact det_ite (det_halt _) (by first | exact det_intArith .. | exact det_intDiv .. | exact det_intBits .. | exact det_intCmp ..)
theorem det_binOp_string (op : BinOp) (t : TypeId) (x y : ByteArray) : Det P (binOp op t (.string x) (.string y)) := by
  cases op <;> simp only [binOp] <;> exact det_stringOp ..

/-- A type at which '==' hangs on its operands alone. -/
def plainEq (P : Program) (t : TypeId) : Bool :=
  match P.underlying t with
  | some .bool | some (.slice _) | some (.map ..) | some (.func ..) | some (.chan ..) => true
  | _ => false
theorem det_equalIn_plain {t : TypeId} (h : plainEq P t = true) (d : Nat) (x y : Value) : Det P (Op.equalIn d t x y) := by
  cases d with
  | zero => unfold Op.equalIn; exact det_halt _
  | succ d =>
    unfold plainEq at h
    unfold Op.equalIn
    cases hu : P.underlying t with
    | none => exact det_underlying_none hu
    | some D =>
      simp only [hu] at h
      refine det_underlying_then hu ?_
      cases D <;> simp only [Bool.false_eq_true] at h <;> (try dsimp only) <;> split <;> first | exact det_pure _ | exact det_halt _ | contradiction
def lenOk (P : Program) (ts : Array TypeId) : Bool := match (ts[0]?).bind P.underlying with | some .string | some (.slice _) | some (.array ..) => true | _ => false
theorem det_len_plain {ts : Array TypeId} {t : TypeId} {xs : Array Value} (h : lenOk P ts = true) : Det P (Builtin.len_ ts t xs) := by
  unfold lenOk at h
  unfold Builtin.len_
  split
  · rename_i t0 x h0
    simp only [Prod.mk.injEq] at h0
    rw [h0.1] at h
    simp only [Option.bind_some] at h
    cases hu : P.underlying t0 with
    | none => exact det_underlying_none hu
    | some D =>
      simp only [hu] at h
      refine det_underlying_then hu ?_
      cases D <;> simp only [Bool.false_eq_true] at h <;> (try dsimp only) <;> first | exact det_pure _ | (split <;> first | exact det_pure _ | exact det_halt _ | contradiction)
  · exact det_halt _
theorem det_makeInterface (t : TypeId) (x : Value) : Det P (Instr.makeInterface t x) := by
  unfold Instr.makeInterface
  refine det_bind (det_underlying t) fun d => ?_
  split <;> first | exact det_pure _ | exact det_halt _
def fieldOk (P : Program) (t : TypeId) (f : Nat) : Bool := match P.underlying t with | some (.struct fs) => (match fs[f]? with | some g => ((P.info? g.type).map (·.size)) != some 0 | none => true) | _ => true
theorem det_fieldAt {t : TypeId} {f : Nat} (x : Value) (h : fieldOk P t f = true) : Det P (Instr.fieldAt t x f) := by
  unfold fieldOk at h
  unfold Instr.fieldAt
  cases hu : P.underlying t with
  | none => exact det_underlying_none hu
  | some D =>
    simp only [hu] at h
    refine det_underlying_then hu ?_
    split
    · rename_i fs
      simp only at h
      split
      · rename_i g hg
        simp only [hg] at h
        refine det_bind (det_sureAddr _) fun a => ?_
        refine det_bind ?_ fun _ => det_pure _
        unfold fieldPlace
        constructor; intro w w' r hr
        rw [Sem.run_bind] at hr
        obtain ⟨sz, w1, h1, h2⟩ := andThen_ok hr
        obtain ⟨rfl, h3⟩ := (det_sizeOf (P := P) _).out _ _ _ h1
        have hne : sz ≠ 0 := by
          intro e
          subst e
          simp only [sizeOf, typeInfo, program, Sem.run_bind, Sem.run, Result.andThen_ok] at h1
          cases hi : P.info? g.type with
          | none => simp [hi, stuck] at h1
          | some i => simp [hi] at h1 h; exact h h1
        rw [if_neg hne] at h2
        simp at h2
        refine ⟨h2.2.symm, fun w'' => ?_⟩
        rw [Sem.run_bind, h3 w'', Result.andThen_ok, if_neg hne]
        simp [h2.1]
      · exact det_halt _
    · exact det_halt _

theorem det_build (t : TypeId) (ps : Array (Nat × Value)) : Det P (Instr.build t ps) := by
  unfold Instr.build
  refine det_bind (det_zeroValue _) fun z => det_bind (det_underlying t) fun d => ?_
  split
  · refine det_bind ?_ fun places => ?_
    · have hm : ∀ (l : List Field), Det P (l.mapM (fun f => do pure (f.offset, ← sizeOf f.type) : Field → Sem (Nat × Nat))) := by
        intro l
        induction l with
        | nil => exact det_pure _
        | cons f l ih =>
          rw [List.mapM_cons]
          exact det_bind (det_bind (det_sizeOf _) fun _ => det_pure _) fun _ => det_bind ih fun _ => det_pure _
      rw [Array.mapM_eq_mapM_toList]
      exact det_map (hm _)
    · split <;> first | exact det_pure _ | exact det_halt _
  · refine det_bind (det_sizeOf _) fun sz => ?_
    split <;> first | exact det_pure _ | exact det_halt _
  · exact det_halt _

theorem det_typeAssert (x : Value) (t u : TypeId) (ok : Bool) : Det P (Instr.typeAssert x t u ok) := by
  unfold Instr.typeAssert
  have hh : ∀ v, Det P (pure (if ok = true then Value.tuple #[v, .bool true] else v) : Sem Value) := fun v => det_pure _
  have hf : ∀ a b m, Det P (if ok = true then (do pure (.tuple #[← zeroValue u, .bool false])) else runtimePanic (.typeAssertion a b u m) : Sem Value) := fun a b m =>
    det_ite (det_bind (det_zeroValue _) fun _ => det_pure _) (never_runtimePanic _).det
  refine det_bind (det_underlying u) fun d => ?_
  split
  · exact hf _ _ _
  · refine det_bind (det_typeInfo _) fun i => ?_
    split
    · exact hh _
    · exact hf _ _ _
  · exact hf _ _ _
  · split
    · exact hh _
    · exact hf _ _ _
  · exact det_halt _

theorem det_followBlind : ∀ (l : List FieldStep) (t : TypeId) (x : Option Value), Det P (followBlind l t x)
  | [], t, x => det_pure _
  | s :: rest, t, x => by
    unfold followBlind
    refine det_bind (det_underlying _) fun d => ?_
    split
    · split
      · split
        · exact det_pure _
        · exact det_followBlind rest _ _
        · exact det_halt _
        · exact det_pure _
        · exact det_bind (det_part ..) fun _ => det_followBlind rest _ _
        · exact det_halt _
        · exact det_followBlind rest _ _
      · exact det_halt _
    · exact det_halt _
theorem det_nilAhead : ∀ (n : Nat) (t : TypeId) (v : Value) (m : String), Det P (nilAhead n t v m)
  | 0, _, _, _ => det_pure _
  | n + 1, t, v, m => by
    unfold nilAhead
    refine det_bind (det_typeInfo _) fun i => ?_
    split
    · refine det_bind (det_followBlind ..) fun r => ?_
      split
      · exact det_pure _
      · split
        · exact det_nilAhead n _ _ _
        · exact det_pure _
        · exact det_halt _
        · exact det_pure _
        · exact det_pure _
        · refine det_bind (det_underlying _) fun d => ?_
          split <;> exact det_pure _
    · exact det_halt _

theorem heap_old {w : World} {k : Nat} {x : Obj} (o : Obj) (h : w.heap[k]? = some x) : (w.alloc o).heap[k]? = some x := by
  have hlt := (Array.getElem?_eq_some_iff.1 h).1
  show (w.heap.push o)[k]? = _
  rw [Array.getElem?_push, if_neg (by omega), h]
theorem cell_old {w : World} {a : Addr} {v : Value} (o : Obj) (h : w.cell? a = some v) : (w.alloc o).cell? a = some v := by
  unfold World.cell? at h ⊢
  cases hb : w.heap[a.block]? with
  | none => simp [hb] at h
  | some x => rw [heap_old o hb]; simpa [hb] using h
theorem seen_old {w : World} {p : Program} {at_ k : Addr} {u : TypeId} {b : Bool} {r} (o : Obj) (h : w.seen p at_ u k b = .ok r) : (w.alloc o).seen p at_ u k b = .ok r := by
  have key : (∃ x, w.heap[at_.block]? = some x) → (w.alloc o).heap[at_.block]? = w.heap[at_.block]? := by
    rintro ⟨x, hx⟩; rw [hx, heap_old o hx]
  cases hb : w.heap[at_.block]? with
  | some x => unfold World.seen at h ⊢; rw [key ⟨x, hb⟩]; exact h
  | none =>
    exfalso
    unfold World.seen at h
    simp only [hb] at h
    revert h
    cases hs : (k.spot.isSome || at_.spot.isSome) <;> cases plainCell p p.depth u k.off with
      | none => simp [throw, throwThe, MonadExceptOf.throw, Except.bind, bind, pure, Except.pure]
      | some like => 
        cases hl : like.bytes? <;> cases byteOfCell p p.depth u k.off <;> simp [throw, throwThe, MonadExceptOf.throw, Except.bind, bind, pure, Except.pure, hl]
theorem quiet_load (m : Mode) (a : Addr) : Quiet P (Sem.load m a Sem.pure) := by
  constructor; intro w w' x h
  simp only [Sem.run] at h
  split at h
  · rename_i v hv
    simp only [Result.ok.injEq] at h
    refine ⟨h.2.symm, fun o => ?_⟩
    simp only [Sem.run, cell_old o hv, h.1]
  · rename_i hv
    split at h
    · rename_i r la hfar
      simp only [Result.ok.injEq] at h
      refine ⟨h.2.symm, fun o => ?_⟩
      unfold World.farLoad at hfar
      cases hb : w.heap[a.block]? with
      | none => simp [hb] at hfar
      | some x =>
        have hc : (w.alloc o).cell? a = none := by
          unfold World.cell? at hv ⊢
          rw [heap_old o hb]
          simpa [hb] using hv
        have hf2 : (w.alloc o).farLoad P a (m == .atomic) = .ok (r, la) := by
          unfold World.farLoad
          rw [heap_old o hb]
          rw [hb] at hfar
          cases x with
          | view at_ u =>
            simp only at hfar ⊢
            unfold World.viewLoad at hfar ⊢
            cases hs : w.seen P at_ u a (m == .atomic) with
            | error e => simp [hs, bind, Except.bind] at hfar
            | ok q => rw [seen_old o hs]; rw [hs] at hfar; exact hfar
          | _ => simp at hfar
        simp only [Sem.run, hc, hf2, h.1]
    · simp at h
theorem quiet_loadCellsFrom (a : Addr) : ∀ (n i : Nat) (acc : Array Value), Quiet P (loadCellsFrom a i n acc)
  | 0, i, acc => (det_pure _).quiet
  | n + 1, i, acc => by
    unfold loadCellsFrom
    exact quiet_bind (quiet_load _ _) fun _ => quiet_loadCellsFrom a n _ _
theorem quiet_loadVar (t : TypeId) (a : Addr) : Quiet P (loadVar t a) := by
  unfold loadVar
  refine quiet_bind (det_isAgg t).quiet fun b => quiet_ite ?_ (quiet_load _ _)
  exact quiet_bind (det_sizeOf t).quiet fun _ => quiet_bind (quiet_loadCellsFrom ..) fun _ => (det_pure _).quiet
theorem quiet_loadAt (t : TypeId) (v : Value) : Quiet P (Instr.loadAt t v) := by
  unfold Instr.loadAt
  exact quiet_bind (det_sureAddr v).quiet fun _ => quiet_loadVar ..
theorem quiet_getObj (r : Nat) : Quiet P (getObj r) := by
  constructor; intro w w' x h
  simp only [getObj, Sem.run] at h
  split at h
  · simp at h
  · rename_i ob hne hob
    simp only [Result.ok.injEq] at h
    refine ⟨h.2.symm, fun o => ?_⟩
    simp only [getObj, Sem.run, heap_old o hob]
    cases ob with
    | cells c e f => exact absurd rfl (hne c e f)
    | _ => simp [h.1]
  · simp at h
theorem quiet_len (ts : Array TypeId) (t : TypeId) (xs : Array Value) : Quiet P (Builtin.len_ ts t xs) := by
  unfold Builtin.len_
  split
  · refine quiet_bind (det_underlying _).quiet fun d => ?_
    split
    · exact (det_pure _).quiet
    · exact (det_pure _).quiet
    · refine quiet_bind (det_underlying _).quiet fun d => ?_
      split <;> first | exact (det_pure _).quiet | exact (det_halt _).quiet
    · exact (det_pure _).quiet
    · exact (det_pure _).quiet
    · exact (det_pure _).quiet
    · refine quiet_bind (quiet_getObj _) fun o => ?_
      split <;> first | exact (det_pure _).quiet | exact (det_halt _).quiet
    · refine quiet_bind (quiet_getObj _) fun o => ?_
      split <;> first | exact (det_pure _).quiet | exact (det_halt _).quiet
    · exact (det_halt _).quiet
  · exact (det_halt _).quiet

/-! ### The classes of operations -/

/-- Operands that this operation takes as integers ('I': the integer types), as strings ('S'). -/
def minLits (args : Array Operand) : List Operand := match args.toList with
  | [_, .const (.int k n)] => [.const (.int k n)]
  | _ => []
def intsOf (I : List TypeId) : Op → List Operand
  | .binOp .shl _ x y _ | .binOp .shr _ x y _ => [x, y]
  | .binOp _ t x y _ => if I.contains t then [x, y] else []
  | .convert s d x => if I.contains s && I.contains d then [x] else []
  | .call { callee := .builtin .min, args := args, argTypes := _ } => minLits args
  | _ => []
def strsOf (S : List TypeId) : Op → List Operand
  | .binOp _ t x y _ => if S.contains t then [x, y] else []
  | _ => []

inductive Cls where
  | det | quiet | fresh | any
  deriving DecidableEq

def cls (P : Program) (I S : List TypeId) : Op → Cls
  | .move _ | .assign _ | .pick .. | .build .. | .unOp .. | .makeInterface .. | .makeFunc .. | .extract .. | .field .. | .index .. | .indexAddr .. | .slice .. | .nilCheck _ | .typeAssert .. => .det
  | .fieldAddr t _ f => if fieldOk P t f then .det else .any
  | .binOp .shl .. | .binOp .shr .. => .det
  | .binOp .eql t _ _ _ | .binOp .neq t _ _ _ => if I.contains t || S.contains t || plainEq P t then .det else .any
  | .binOp _ t _ _ _ => if I.contains t || S.contains t then .det else .any
  | .convert s d _ => if I.contains s && I.contains d then .det else .any
  | .load .. => .quiet
  | .box .. | .alloc .. | .buildSlice .. => .fresh
  | .call { callee := .builtin .len, args := _, argTypes := ts } => if lenOk P ts then .det else .quiet
  | .call { callee := .builtin .min, args := args, argTypes := _ } => if (minLits args).isEmpty then .any else .det
  | _ => .any

def Fit (I S : List TypeId) (ρ : Operand → Value) (o : Op) : Prop :=
  (∀ x ∈ intsOf I o, ∃ k n, ρ x = .int k n) ∧ (∀ x ∈ strsOf S o, ∃ s, ρ x = .string s)

/-- It gives one value, in every world. -/
def DetN (P : Program) (s : Sem Next) : Prop := ∀ w w' n, s.run P w = .ok n w' → ∃ v, n = .value v ∧ w' = w ∧ ∀ w'', s.run P w'' = .ok (.value v) w''
theorem detN_value {s : Sem Value} (h : Det P s) : DetN P (do pure (.value (← s))) := by
  intro w w' n hn
  rw [Sem.run_bind] at hn
  obtain ⟨v, w1, h1, h2⟩ := andThen_ok hn
  obtain ⟨rfl, h3⟩ := h.out _ _ _ h1
  simp only [Sem.run_pure, Result.ok.injEq] at h2
  exact ⟨v, h2.1.symm, h2.2.symm, fun w'' => by rw [Sem.run_bind, h3 w'', Result.andThen_ok]; rfl⟩
theorem detN_bind {s : Sem α} {f : α → Sem Next} (hs : Det P s) (hf : ∀ a, DetN P (f a)) : DetN P (s >>= f) := by
  intro w w' n hn
  rw [Sem.run_bind] at hn
  obtain ⟨v, w1, h1, h2⟩ := andThen_ok hn
  obtain ⟨rfl, h3⟩ := hs.out _ _ _ h1
  obtain ⟨u, rfl, rfl, h4⟩ := hf v _ _ _ h2
  exact ⟨u, rfl, rfl, fun w'' => by rw [Sem.run_bind, h3 w'', Result.andThen_ok]; exact h4 w''⟩
theorem det_eqGuard {op : BinOp} {t : TypeId} {x y : Operand} {a b : Value} (h : (∃ k n, a = .int k n) ∨ (∃ s, a = .string s) ∨ plainEq P t = true ∨ (op ≠ .eql ∧ op ≠ .neq)) : Det P (eqGuard op t x y a b) := by
  have hin : plainEq P t = true → ∀ d a b, Det P (Op.eqGuardIn d t a b) := by
    intro hp d a b
    cases d with
    | zero => unfold Op.eqGuardIn; exact det_halt _
    | succ d =>
      unfold Op.eqGuardIn
      unfold plainEq at hp
      cases hu : P.underlying t with
      | none => exact det_underlying_none hu
      | some D =>
        simp only [hu] at hp
        refine det_underlying_then hu ?_
        cases D <;> simp only [Bool.false_eq_true] at hp <;> (try dsimp only) <;> (first | exact det_pure _ | (split <;> first | exact det_pure _ | exact det_halt _ | contradiction))
  have hmain : ((∃ k n, a = .int k n) ∨ (∃ s, a = .string s) ∨ plainEq P t = true) → op = .eql ∨ op = .neq → Det P (eqGuard op t x y a b) := by
    clear h
    intro h hop
    rcases hop with rfl | rfl <;> unfold eqGuard <;> simp only [Bool.not_true, Bool.false_eq_true, if_false] <;> (
    rcases h with ⟨k, n, rfl⟩ | ⟨s, rfl⟩ | hp
    · exact det_pure _
    · exact det_pure _
    · split
      · (repeat' split) <;> first | exact det_pure _ | (refine det_bind (hin hp _ _ _) fun b => ?_; split <;> first | exact det_pure _ | exact det_halt _)
      · refine det_bind det_program fun p => det_bind det_program fun p' => ?_
        split
        · exact det_pure _
        · refine det_bind (hin hp _ _ _) fun b => ?_
          split <;> first | exact det_pure _ | exact det_halt _
      · exact det_pure _)
  by_cases hop : op = .eql ∨ op = .neq
  · rcases h with h | h | h | h
    · exact hmain (.inl h) hop
    · exact hmain (.inr (.inl h)) hop
    · exact hmain (.inr (.inr h)) hop
    · rcases hop with e | e
      · exact absurd e h.1
      · exact absurd e h.2
  · cases op <;> simp at hop <;> exact det_pure _

theorem det_binOp_eql {t : TypeId} {x y : Value} (h : Det P (do pure (.bool (← Op.equal t x y)) : Sem Value)) : Det P (binOp .eql t x y) := by
  unfold binOp
  split <;> first | contradiction | exact h | exact det_stringOp .. | skip
  · split
    · exact det_halt _
    · exact det_intCmp ..
  · split
    · exact det_halt _
    · exact det_pure _
  · split
    · exact det_halt _
    · exact det_pure _
theorem det_binOp_neq {t : TypeId} {x y : Value} (h : Det P (do pure (.bool (!(← Op.equal t x y))) : Sem Value)) : Det P (binOp .neq t x y) := by
  unfold binOp
  split <;> first | contradiction | exact h | exact det_stringOp .. | skip
  · split
    · exact det_halt _
    · exact det_intCmp ..
  · split
    · exact det_halt _
    · exact det_pure _
  · split
    · exact det_halt _
    · exact det_pure _
theorem det_min2 (x : Value) (k : IntKind) (n : Int) : Det P (Builtin.min2 x (.int k n)) := by
  unfold Builtin.min2
  cases x <;> first | exact det_pure _ | exact det_halt _ | skip
  all_goals (split <;> first | exact det_pure _ | exact det_halt _ | (simp_all; done))
theorem min_args {args : Array Operand} (h : (minLits args).isEmpty = false) : ∃ x k n, args = #[x, .const (.int k n)] ∧ minLits args = [.const (.int k n)] := by
  obtain ⟨l⟩ := args
  unfold minLits at *
  simp only at h ⊢
  split at h
  · exact ⟨_, _, _, rfl, rfl⟩
  · simp at h
theorem detN_of_cls {I S : List TypeId} (hI : ∀ t ∈ I, ∃ k, P.underlying t = some (.int k)) {ρ : Operand → Value} {o : Oper} (hc : cls P I S o.op = .det) (hf : Fit I S ρ o.op) : DetN P (execOp ρ o) := by
  unfold execOp
  cases ho : o.op <;> simp only [ho] at hc hf ⊢
  case move x => intro w w' n hn; simp only [Sem.run_pure, Result.ok.injEq] at hn; exact ⟨_, hn.1.symm, hn.2.symm, fun _ => rfl⟩
  case assign x => intro w w' n hn; simp only [Sem.run_pure, Result.ok.injEq] at hn; exact ⟨_, hn.1.symm, hn.2.symm, fun _ => rfl⟩
  case pick c a b =>
    have := detN_value (P := P) (s := (do pure (if ← asBool (ρ c) then ρ a else ρ b))) (det_bind (det_asBool _) fun _ => det_pure _)
    simpa using this
  case build t ps => exact detN_value (det_build ..)
  case unOp op t x => exact detN_value (det_unary ..)
  case makeInterface t x => exact detN_value (det_makeInterface ..)
  case makeFunc f a b => exact detN_value (det_pure _)
  case extract x i => exact detN_value (det_extract ..)
  case field t x f => exact detN_value (det_field ..)
  case index t x i => exact detN_value (det_index ..)
  case indexAddr t x i => exact detN_value (det_indexAt ..)
  case slice t x lo hi mx => exact detN_value (det_sliceAt ..)
  case typeAssert x t u ok => exact detN_value (det_typeAssert ..)
  case nilCheck x =>
    have hv : ∀ v : Value, DetN P (pure (.value v) : Sem Next) := by
      intro v w w' n hn
      simp only [Sem.run_pure, Result.ok.injEq] at hn
      exact ⟨_, hn.1.symm, hn.2.symm, fun _ => rfl⟩
    have hnv : DetN P (runtimePanic .nilDeref : Sem Next) := fun w w' n hn => absurd hn ((never_runtimePanic _).out _ _ _)
    split
    · exact hnv
    · exact hnv
    · exact hnv
    · split
      · exact hnv
      · refine detN_bind det_program fun p => detN_bind (det_nilAhead ..) fun r => ?_
        split
        · exact detN_bind (det_halt _) fun _ => hv _
        · intro w w' n hn
          simp at hn
          exact ⟨_, hn.1.symm, hn.2.symm, fun _ => by simp⟩
      · exact hv _
    · exact hv _
  case fieldAddr t x f =>
    simp only [cls] at hc
    split at hc
    · rename_i h; exact detN_value (det_fieldAt _ h)
    · cases hc
  case binOp op t x y yt =>
    refine detN_value (det_bind (det_eqGuard ?_) fun _ => ?_)
    · by_cases hop : op = .eql ∨ op = .neq
      · by_cases h1 : I.contains t = true
        · have : intsOf I (.binOp op t x y yt) = [x, y] := by rcases hop with rfl | rfl <;> simp only [intsOf, h1, if_true]
          rw [Fit, this] at hf
          exact .inl (hf.1 x (by simp))
        · by_cases h2 : S.contains t = true
          · have : strsOf S (.binOp op t x y yt) = [x, y] := by rcases hop with rfl | rfl <;> simp only [strsOf, h2, if_true]
            rw [Fit, this] at hf
            exact .inr (.inl (hf.2 x (by simp)))
          · refine .inr (.inr (.inl ?_))
            rcases hop with rfl | rfl <;> simp only [cls, h1, h2, Bool.false_or] at hc <;> (split at hc <;> first | assumption | cases hc)
      · exact .inr (.inr (.inr ⟨fun e => hop (.inl e), fun e => hop (.inr e)⟩))
    · have hii : (∃ k n, ρ x = .int k n) → (∃ k n, ρ y = .int k n) → Det P (binOp op t (ρ x) (ρ y)) := by
        rintro ⟨k, n, h1⟩ ⟨j, m, h2⟩; rw [h1, h2]; exact det_binOp_int ..
      have hss : (∃ s, ρ x = .string s) → (∃ s, ρ y = .string s) → Det P (binOp op t (ρ x) (ρ y)) := by
        rintro ⟨k, h1⟩ ⟨j, h2⟩; rw [h1, h2]; exact det_binOp_string ..
      by_cases hsh : op = .shl ∨ op = .shr
      · rcases hsh with rfl | rfl <;> exact hii (hf.1 x (by simp [intsOf])) (hf.1 y (by simp [intsOf]))
      · by_cases h1 : I.contains t = true
        · have : intsOf I (.binOp op t x y yt) = [x, y] := by cases op <;> simp_all [intsOf]
          rw [Fit, this] at hf
          exact hii (hf.1 x (by simp)) (hf.1 y (by simp))
        · by_cases h2 : S.contains t = true
          · have : strsOf S (.binOp op t x y yt) = [x, y] := by cases op <;> simp_all [strsOf]
            rw [Fit, this] at hf
            exact hss (hf.2 x (by simp)) (hf.2 y (by simp))
          · have h3 : (op = .eql ∨ op = .neq) ∧ plainEq P t = true := by
              cases op
              case eql => simp only [cls, h1, h2, Bool.false_or] at hc; split at hc; (rename_i hp; exact ⟨.inl rfl, hp⟩); cases hc
              case neq => simp only [cls, h1, h2, Bool.false_or] at hc; split at hc; (rename_i hp; exact ⟨.inr rfl, hp⟩); cases hc
              case shl => exact absurd (.inl rfl) hsh
              case shr => exact absurd (.inr rfl) hsh
              all_goals (simp only [cls, h1, h2, Bool.or_false, Bool.false_eq_true, if_false, reduceCtorEq] at hc)
            have heq : Det P (do pure (.bool (← Op.equal t (ρ x) (ρ y))) : Sem Value) := det_bind (det_equalIn_plain h3.2 ..) fun _ => det_pure _
            have hne : Det P (do pure (.bool (!(← Op.equal t (ρ x) (ρ y)))) : Sem Value) := det_bind (det_equalIn_plain h3.2 ..) fun _ => det_pure _
            rcases h3.1 with rfl | rfl
            · exact det_binOp_eql heq
            · exact det_binOp_neq hne
  case convert s d x =>
    simp only [cls] at hc
    split at hc
    · rename_i h
      simp only [Bool.and_eq_true] at h
      have hs : intsOf I (.convert s d x) = [x] := by simp only [intsOf, h.1, h.2, Bool.and_self, if_true]
      rw [Fit, hs] at hf
      obtain ⟨k, n, hx⟩ := hf.1 x (by simp)
      obtain ⟨ks, hks⟩ := hI s (by simpa using h.1)
      obtain ⟨kd, hkd⟩ := hI d (by simpa using h.2)
      refine detN_value ?_
      unfold convert
      refine det_underlying_then hks (det_underlying_then hkd ?_)
      rw [hx]
      exact det_pure _
    · cases hc
  case call c =>
    obtain ⟨cal, args, ts⟩ := c
    cases cal with
    | value f => simp [cls] at hc
    | invoke r m => simp [cls] at hc
    | builtin b =>
      cases b <;> simp only [cls] at hc
      case len =>
        split at hc
        · rename_i h
          have := detN_value (det_len_plain (P := P) (ts := ts) (t := o.type) (xs := args.map ρ) h)
          simpa [resolve, invoke, builtin] using this
        · cases hc
      case min =>
        split at hc
        · cases hc
        · rename_i h
          rw [Bool.not_eq_true] at h
          obtain ⟨x, k, n, rfl, hl⟩ := min_args h
          have hi : intsOf I (.call { callee := .builtin .min, args := #[x, .const (.int k n)], argTypes := ts }) = [.const (.int k n)] := hl
          rw [Fit, hi] at hf
          obtain ⟨k', n', hx⟩ := hf.1 (.const (.int k n)) (by simp)
          have hd : Det P (Builtin.min_ ts o.type #[ρ x, ρ (.const (.int k n))]) := by
            rw [hx]
            unfold Builtin.min_
            simp only [List.foldlM_cons, List.foldlM_nil]
            exact det_bind (det_min2 _ _ _) fun _ => det_pure _
          have := detN_value hd
          simpa [resolve, invoke, builtin] using this
      all_goals cases hc
  all_goals simp [cls] at hc

theorem quietN_of_cls {I S : List TypeId} {ρ : Operand → Value} {o : Oper} (hc : cls P I S o.op = .quiet) : ∀ w w' n, (execOp ρ o).run P w = .ok n w' → ∃ v, n = .value v ∧ w' = w ∧ ∀ ob, (execOp ρ o).run P (w.alloc ob) = .ok (.value v) (w.alloc ob) := by
  have key : ∀ {s : Sem Value}, Quiet P s → ∀ w w' n, (do pure (.value (← s)) : Sem Next).run P w = .ok n w' → ∃ v, n = .value v ∧ w' = w ∧ ∀ ob, (do pure (.value (← s)) : Sem Next).run P (w.alloc ob) = .ok (.value v) (w.alloc ob) := by
    intro s hs w w' n hn
    rw [Sem.run_bind] at hn
    obtain ⟨v, w1, h1, h2⟩ := andThen_ok hn
    obtain ⟨rfl, h3⟩ := hs.out _ _ _ h1
    simp only [Sem.run_pure, Result.ok.injEq] at h2
    exact ⟨v, h2.1.symm, h2.2.symm, fun ob => by rw [Sem.run_bind, h3 ob, Result.andThen_ok]; rfl⟩
  unfold execOp
  cases ho : o.op <;> simp only [ho] at hc ⊢
  case load t x => exact key (quiet_loadAt ..)
  case fieldAddr t x f => simp only [cls] at hc; split at hc <;> cases hc
  case binOp op t x y yt => cases op <;> simp only [cls] at hc <;> (first | cases hc | (split at hc <;> cases hc))
  case convert s d x => simp only [cls] at hc; split at hc <;> cases hc
  case call c =>
    obtain ⟨cal, args, ts⟩ := c
    cases cal with
    | value f => simp [cls] at hc
    | invoke r m => simp [cls] at hc
    | builtin b =>
      cases b <;> simp only [cls] at hc
      case len =>
        have := key (quiet_len (P := P) ts o.type (args.map ρ))
        simpa [resolve, invoke, builtin] using this
      case min => split at hc <;> cases hc
      all_goals cases hc
  all_goals simp [cls] at hc

theorem freshN_of_cls {I S : List TypeId} {ρ : Operand → Value} {o : Oper} (hc : cls P I S o.op = .fresh) : ∀ w w' n, (execOp ρ o).run P w = .ok n w' → ∃ v ob, n = .value v ∧ w' = w.alloc ob := by
  have hrow : ∀ (t : TypeId) (c : Array Value) w w' x, (newRow t c).run P w = .ok x w' → w' = w.alloc (.cells c t) := by
    intro t c w w' x h
    simp [newRow, newObj, Sem.run] at h
    exact h.2.symm
  have key : ∀ {s : Sem Value}, (∀ w w' x, s.run P w = .ok x w' → ∃ ob, w' = w.alloc ob) → ∀ w w' n, (do pure (.value (← s)) : Sem Next).run P w = .ok n w' → ∃ v ob, n = .value v ∧ w' = w.alloc ob := by
    intro s hs w w' n hn
    rw [Sem.run_bind] at hn
    obtain ⟨v, w1, h1, h2⟩ := andThen_ok hn
    obtain ⟨ob, rfl⟩ := hs _ _ _ h1
    simp only [Sem.run_pure, Result.ok.injEq] at h2
    exact ⟨v, ob, h2.1.symm, h2.2.symm⟩
  have pre : ∀ {γ β : Type} {s : Sem γ} {f : γ → Sem β}, Det P s → (∀ a w w' x, (f a).run P w = .ok x w' → ∃ ob, w' = w.alloc ob) → ∀ w w' x, (s >>= f).run P w = .ok x w' → ∃ ob, w' = w.alloc ob := by
    intro γ β s f hs hf w w' x h
    rw [Sem.run_bind] at h
    obtain ⟨a, w1, h1, h2⟩ := andThen_ok h
    obtain ⟨rfl, _⟩ := hs.out _ _ _ h1
    exact hf a _ _ _ h2
  have last : ∀ {t : TypeId} {c : Array Value} {g : Addr → Value} w w' x, (newRow t c >>= fun a => pure (g a)).run P w = .ok x w' → ∃ ob, w' = w.alloc ob := by
    intro t c g w w' x h
    rw [Sem.run_bind] at h
    obtain ⟨a, w1, h1, h2⟩ := andThen_ok h
    simp only [Sem.run_pure, Result.ok.injEq] at h2
    exact ⟨_, h2.2.symm.trans (hrow _ _ _ _ _ h1)⟩
  unfold execOp
  cases ho : o.op <;> simp only [ho] at hc ⊢
  case box t x => exact key (fun w w' v h => by unfold Instr.box newVar at h; exact last _ _ _ h)
  case alloc t => exact key (fun w w' v h => by unfold Instr.alloc at h; refine pre (det_zeroValue _) (fun z w w' x h => ?_) _ _ _ h; unfold newVar at h; exact last _ _ _ h)
  case buildSlice t len ps =>
    refine key (fun w w' v h => ?_)
    unfold Instr.buildSlice at h
    refine pre (det_underlying _) (fun d w w' x h => ?_) _ _ _ h
    split at h
    · rename_i el
      refine pre (det_sizeOf _) (fun sz w w' x h => ?_) _ _ _ h
      dsimp only at h
      split at h
      · simp [unsupported] at h
      · split at h
        · refine pre (det_pure _) ?_ _ _ _ h
          intro z w w' x h
          split at h
          · exact last (g := fun a => Value.slice (some a) len len) _ _ _ h
          · simp [stuck] at h
        · refine pre (det_zeroValue _) ?_ _ _ _ h
          intro z w w' x h
          refine pre (det_pure _) ?_ _ _ _ h
          intro z w w' x h
          split at h
          · exact last (g := fun a => Value.slice (some a) len len) _ _ _ h
          · simp [stuck] at h
    · simp [stuck] at h
  case fieldAddr t x f => simp only [cls] at hc; split at hc <;> cases hc
  case binOp op t x y yt => cases op <;> simp only [cls] at hc <;> (first | cases hc | (split at hc <;> cases hc))
  case convert s d x => simp only [cls] at hc; split at hc <;> cases hc
  case call c =>
    obtain ⟨cal, args, ts⟩ := c
    cases cal with
    | value f => simp [cls] at hc
    | invoke r m => simp [cls] at hc
    | builtin b => cases b <;> simp only [cls] at hc <;> (first | cases hc | (split at hc <;> cases hc))
  all_goals simp [cls] at hc

/-! ### Two operations change places -/

section swap
variable {ops : Array Oper} {I S : List TypeId}

/-- Nothing but the region's end is asked. -/
abbrev Only (K : Act → World → Prop) : Exit → Act → World → Prop := Exit.then K (fun _ _ _ => False)

/-- In frame 'a', if 'o' runs at all, it gives one value in every world ('det'). -/
def Yl (P : Program) (ops : Array Oper) (o : Oper) (a : Act) : Prop := Region.wanted o (yielded ops a.tmps) = true → DetN P (execOp a.eval o)
def Ql (P : Program) (ops : Array Oper) (o : Oper) (a : Act) : Prop := Region.wanted o (yielded ops a.tmps) = true → ∀ w w' n, (execOp a.eval o).run P w = .ok n w' → ∃ v, n = .value v ∧ w' = w ∧ ∀ ob, (execOp a.eval o).run P (w.alloc ob) = .ok (.value v) (w.alloc ob)

theorem letsOut_only {K : Act → World → Prop} : ¬ LetsOut (Only K) := by rintro ⟨a, w, h⟩; exact h

theorem eval_congr {a a' : Act} (h : a.tmps = a'.tmps) : a.eval = a'.eval := by
  funext x; cases x <;> simp [Act.eval, h]

/-- Any operation: there is a frame and a world behind it. -/
theorem wpOp_some {i : Nat} {K K' : Act → World → Prop} {o : Oper} {a : Act} {w : World} (hi : ops[i]? = some o) (h : wpOp P ops (Only K') i K a w) :
    ∃ a' v w', a'.tmps = (a.put o.dst v).tmps ∧ K a' w' := by
  unfold wpOp at h
  simp only [hi] at h
  split at h
  · rcases h with h | h
    · unfold Oper.wp at h
      generalize (execOp a.eval o).run P w = r at h
      cases r with
      | ok n w' =>
        cases n <;> simp only [Oper.upon] at h
        case value v => exact ⟨_, v, w', rfl, h⟩
        case skip => exact ⟨_, _, w', rfl, h⟩
        case enter f args =>
          obtain ⟨e, w'', fr, hR, _⟩ := h []
          cases e with
          | returned v => exact ⟨_, v, w'', rfl, hR⟩
          | panicked c => exact hR.elim
          | outgrown => exact (letsOut_only hR).elim
        case row r args =>
          obtain ⟨v, w'', hR, _⟩ := h default []
          exact ⟨_, v, w'', rfl, hR⟩
        case defer d => exact ⟨_, undef, w', by cases o.dst <;> rfl, h⟩
      | halt x w' => cases x <;> simp only [Oper.upon] at h; exact h.elim
    · exact (letsOut_only h.2).elim
  · exact ⟨_, _, _, rfl, h⟩

/-- What a 'det' operation that runs gives. -/
theorem yields_of_wpOp {j : Nat} {K K' : Act → World → Prop} {o : Oper} {a : Act} {w : World} (hj : ops[j]? = some o) (hd : Yl P ops o a) (h : wpOp P ops (Only K') j K a w) :
    ∃ u, Yields P ops o u a ∧ K (a.put o.dst u) w := by
  unfold wpOp at h
  simp only [hj] at h
  split at h
  · rename_i hw
    rcases h with h | h
    · unfold Oper.wp at h
      generalize hr : (execOp a.eval o).run P w = r at h
      cases r with
      | ok n w' =>
        obtain ⟨v, rfl, rfl, hall⟩ := hd hw _ _ _ hr
        exact ⟨v, .inl ⟨hw, hall⟩, h⟩
      | halt x w' => cases x <;> simp only [Oper.upon] at h; exact h.elim
    · exact (letsOut_only h.2).elim
  · rename_i hw
    exact ⟨undef, .inr ⟨by simpa using hw, rfl⟩, h⟩

/-- What a 'fresh' operation that runs gives. -/
theorem fresh_of_wpOp {j : Nat} {K K' : Act → World → Prop} {o : Oper} {a : Act} {w : World} (hj : ops[j]? = some o) (hd : Region.wanted o (yielded ops a.tmps) = true → ∀ w w' n, (execOp a.eval o).run P w = .ok n w' → ∃ v ob, n = .value v ∧ w' = w.alloc ob) (h : wpOp P ops (Only K') j K a w) :
    (∃ u ob, Region.wanted o (yielded ops a.tmps) = true ∧ (execOp a.eval o).run P w = .ok (.value u) (w.alloc ob) ∧ K (a.put o.dst u) (w.alloc ob)) ∨ (Region.wanted o (yielded ops a.tmps) = false ∧ K (a.put o.dst undef) w) := by
  unfold wpOp at h
  simp only [hj] at h
  split at h
  · rename_i hw
    rcases h with h | h
    · unfold Oper.wp at h
      generalize hr : (execOp a.eval o).run P w = r at h
      cases r with
      | ok n w' =>
        obtain ⟨v, ob, rfl, rfl⟩ := hd hw _ _ _ hr
        exact .inl ⟨v, ob, hw, rfl, h⟩
      | halt x w' => cases x <;> simp only [Oper.upon] at h; exact h.elim
    · exact (letsOut_only h.2).elim
  · rename_i hw
    exact .inr ⟨by simpa using hw, h⟩

/-- What a 'quiet' operation that runs gives. -/
theorem quiet_of_wpOp {j : Nat} {K K' : Act → World → Prop} {o : Oper} {a : Act} {w : World} (hj : ops[j]? = some o) (hd : Ql P ops o a) (h : wpOp P ops (Only K') j K a w) :
    ∃ u, ((Region.wanted o (yielded ops a.tmps) = true ∧ (execOp a.eval o).run P w = .ok (.value u) w ∧ ∀ ob, (execOp a.eval o).run P (w.alloc ob) = .ok (.value u) (w.alloc ob)) ∨ (Region.wanted o (yielded ops a.tmps) = false ∧ u = undef)) ∧ K (a.put o.dst u) w := by
  unfold wpOp at h
  simp only [hj] at h
  split at h
  · rename_i hw
    rcases h with h | h
    · unfold Oper.wp at h
      generalize hr : (execOp a.eval o).run P w = r at h
      cases r with
      | ok n w' =>
        obtain ⟨v, rfl, he, hob⟩ := hd hw _ _ _ hr
        exact ⟨v, .inl ⟨hw, by rw [he], hob⟩, by rw [he] at h; exact h⟩
      | halt x w' => cases x <;> simp only [Oper.upon] at h; exact h.elim
    · exact (letsOut_only h.2).elim
  · rename_i hw
    exact ⟨undef, .inr ⟨by simpa using hw, rfl⟩, h⟩
theorem wpOp_of_quiet {j : Nat} {K : Act → World → Prop} {Q : Exit → Act → World → Prop} {o : Oper} {a : Act} {w : World} {u : Value} (hj : ops[j]? = some o)
    (h : (Region.wanted o (yielded ops a.tmps) = true ∧ (execOp a.eval o).run P w = .ok (.value u) w) ∨ (Region.wanted o (yielded ops a.tmps) = false ∧ u = undef)) (hK : K (a.put o.dst u) w) : wpOp P ops Q j K a w := by
  unfold wpOp
  simp only [hj]
  rcases h with ⟨hw, hr⟩ | ⟨hw, rfl⟩
  · simp only [hw, if_true, Oper.wp, hr, Oper.upon]; exact .inl hK
  · simp only [hw, Bool.false_eq_true, if_false]; exact hK

/-- An operation 'i' in a frame in which 'dst' of another one has been filled. -/
theorem wpOp_before {i : Nat} {oi oj : Oper} {u : Value} (hi : ops[i]? = some oi) (hsi : ∀ cs b, oi.op ≠ .select cs b)
    (h1 : ∀ d, oj.dst = some d → d ∉ oi.looksAt ops) (h2 : ∀ d, oj.dst = some d → oi.dst ≠ some d) {K K' : Act → World → Prop} {a : Act} {w : World}
    (h : wpOp P ops (Only K') i (fun a' w' => K (a'.put oj.dst u) w') a w) : wpOp P ops (Only K') i K (a.put oj.dst u) w := by
  unfold wpOp at *
  simp only [hi] at *
  rw [wanted_put oi a oj.dst u h1]
  split
  · rename_i hw
    simp only [hw, if_true] at h
    rcases h with h | h
    · refine .inl ?_
      unfold Oper.wp at *
      rw [execOp_put oi hsi a oj.dst u h1]
      generalize (execOp a.eval oi).run P w = r at *
      cases r with
      | ok n w' =>
        cases n <;> simp only [Oper.upon] at h ⊢
        case value v => rw [Act.put_comm a u v h2]; exact h
        case skip => rw [Act.put_comm a u undef h2]; exact h
        case defer d =>
          rw [Act.put_defers, Act.put_comm _ u undef h2]; exact h
        case enter f args =>
          refine Calls.mono h fun e w'' he => ?_
          cases e with
          | returned v => simp only at he ⊢; rw [Act.put_comm a u v h2]; exact he
          | panicked c => exact he.elim
          | outgrown => exact (letsOut_only he).elim
        case row row args => exact Rows.mono h fun v w'' he => by rw [Act.put_comm a u v h2]; exact he
      | halt x w' => cases x <;> simp only [Oper.upon] at h ⊢; exact h.elim
    · exact (letsOut_only h.2).elim
  · rename_i hw
    simp only [hw] at h
    rw [Act.put_comm a u undef h2]; exact h

theorem ints_sub {o : Op} {x : Operand} (h : x ∈ intsOf I o) : x ∈ o.operands := by
  cases o
  case binOp op t a b yt =>
    have : x = a ∨ x = b := by
      by_cases hop : op = .shl ∨ op = .shr
      · rcases hop with rfl | rfl <;> simpa [intsOf] using h
      · by_cases hc : I.contains t = true
        · have : intsOf I (.binOp op t a b yt) = [a, b] := by cases op <;> simp_all [intsOf]
          rw [this] at h; simpa using h
        · have : intsOf I (.binOp op t a b yt) = [] := by cases op <;> simp_all [intsOf]
          rw [this] at h; cases h
    rcases this with rfl | rfl <;> simp [Op.operands]
  case convert s d a => simp only [intsOf] at h; split at h <;> simp at h; subst h; simp [Op.operands]
  case call c =>
    obtain ⟨cal, args, ts⟩ := c
    cases cal with
    | builtin b =>
      cases b
      case min =>
        simp only [intsOf] at h
        have hne : (minLits args).isEmpty = false := by
          cases hm : minLits args with
          | nil => rw [hm] at h; cases h
          | cons _ _ => rfl
        obtain ⟨y, k, n, rfl, hl⟩ := min_args hne
        rw [hl] at h
        simp at h
        subst h
        simp [Op.operands, Call.operands]
      all_goals (simp only [intsOf] at h; cases h)
    | value f => simp only [intsOf] at h; cases h
    | invoke r m => simp only [intsOf] at h; cases h
  all_goals (simp only [intsOf] at h; cases h)
theorem strs_sub {o : Op} {x : Operand} (h : x ∈ strsOf S o) : x ∈ o.operands := by
  cases o <;> simp only [strsOf] at h
  case binOp op t a b yt =>
    have : x = a ∨ x = b := by
      split at h
      · simpa using h
      · cases h
    rcases this with rfl | rfl <;> simp [Op.operands]
  all_goals cases h
theorem fit_congr {o : Op} {ρ ρ' : Operand → Value} (h : ∀ x ∈ o.operands, ρ x = ρ' x) (hf : Fit I S ρ o) : Fit I S ρ' o :=
  ⟨fun x hx => by rw [← h x (ints_sub hx)]; exact hf.1 x hx, fun x hx => by rw [← h x (strs_sub hx)]; exact hf.2 x hx⟩
theorem eval_put_off {o : Oper} {a : Act} {dst : Option Tmp} {v : Value} (h : ∀ d, dst = some d → d ∉ o.looksAt ops) : ∀ x ∈ o.op.operands, (a.put dst v).eval x = a.eval x :=
  fun x hx => Act.eval_put fun d hd hxd => h d hd (by
    subst hxd
    exact List.mem_append_left _ (List.mem_filterMap.2 ⟨.tmp d, by simpa using hx, rfl⟩))

/-- The operands are of their kinds, and the operation is carried out. -/
def wpF (P : Program) (I S : List TypeId) (ops : Array Oper) (Q : Exit → Act → World → Prop) (i : Nat) (K : Act → World → Prop) (a : Act) (w : World) : Prop :=
  (∀ o, ops[i]? = some o → Region.wanted o (yielded ops a.tmps) = true → Fit I S a.eval o.op) ∧ wpOp P ops Q i K a w
theorem wpF_mono {Q : Exit → Act → World → Prop} {i : Nat} {a : Act} {w : World} {K K' : Act → World → Prop} (h : ∀ a w, K a w → K' a w) (hh : wpF P I S ops Q i K a w) : wpF P I S ops Q i K' a w :=
  ⟨hh.1, wpOp_mono h hh.2⟩

/-- **Two operations change places.** -/
theorem swap (hI : ∀ t ∈ I, ∃ k, P.underlying t = some (.int k)) {i j : Nat} {oi oj : Oper} (hi : ops[i]? = some oi) (hj : ops[j]? = some oj) (hsi : ∀ cs b, oi.op ≠ .select cs b) (hsj : ∀ cs b, oj.op ≠ .select cs b)
    (hap : oi.apart ops oj = true) {a : Act} {w : World}
    (hc : cls P I S oi.op = .det ∨ cls P I S oj.op = .det ∨ (cls P I S oi.op = .quiet ∧ (cls P I S oj.op = .quiet ∨ cls P I S oj.op = .fresh))) {K K' : Act → World → Prop}
    (h : wpF P I S ops (Only K') i (wpF P I S ops (Only K') j K) a w) : wpF P I S ops (Only K') j (wpF P I S ops (Only K') i K) a w := by
  obtain ⟨h1, h2, h3⟩ := Oper.apart_spec hap
  have h2' : ∀ d, oj.dst = some d → oi.dst ≠ some d := fun d hd he => h2 d he hd
  obtain ⟨hfi, h⟩ := h
  -- 'j' fits here, too
  have hfj : ∀ a' : Act, (∃ x, a'.tmps = (a.put oi.dst x).tmps) → (∀ o, ops[j]? = some o → Region.wanted o (yielded ops a'.tmps) = true → Fit I S a'.eval o.op) →
      ∀ o, ops[j]? = some o → Region.wanted o (yielded ops a.tmps) = true → Fit I S a.eval o.op := by
    rintro a' ⟨x, hx⟩ hf o ho hw
    rw [hj] at ho
    have ho' : oj = o := by simpa using ho
    subst ho'
    refine fit_congr (ρ := a'.eval) (fun y hy => ?_) (hf _ hj ?_)
    · rw [eval_congr hx]; exact eval_put_off h1 y hy
    · rw [hx, wanted_put oj a oi.dst x h1]; exact hw
  have hfj0 : ∀ o, ops[j]? = some o → Region.wanted o (yielded ops a.tmps) = true → Fit I S a.eval o.op := by
    obtain ⟨a1, v, w1, ha1, hn⟩ := wpOp_some hi h
    exact hfj a1 ⟨v, ha1⟩ hn.1
  have hfi1 : ∀ u, ∀ o, ops[i]? = some o → Region.wanted o (yielded ops (a.put oj.dst u).tmps) = true → Fit I S (a.put oj.dst u).eval o.op := by
    intro u o ho hw
    rw [hi] at ho
    have ho' : oi = o := by simpa using ho
    subst ho'
    rw [wanted_put oi a oj.dst u h3] at hw
    exact fit_congr (fun y hy => (eval_put_off h3 y hy).symm) (hfi _ hi hw)
  refine ⟨hfj0, ?_⟩
  have hfi2 : ∀ a' : Act, (∃ u, a'.tmps = (a.put oj.dst u).tmps) → ∀ o, ops[i]? = some o → Region.wanted o (yielded ops a'.tmps) = true → Fit I S a'.eval o.op := by
    rintro a' ⟨u, hu⟩ o ho hw
    rw [hu] at hw
    rw [eval_congr hu]
    exact hfi1 u o ho hw
  have hYj : cls P I S oj.op = .det → ∀ a' : Act, (∀ o, ops[j]? = some o → Region.wanted o (yielded ops a'.tmps) = true → Fit I S a'.eval o.op) → Yl P ops oj a' :=
    fun hcj a' hf hw => detN_of_cls hI hcj (hf _ hj hw)
  rcases hc with hc | hc | ⟨hc, hcj | hcj⟩
  · have hy : Yl P ops oi a := fun hw => detN_of_cls hI hc (hfi _ hi hw)
    obtain ⟨v, hv, hn⟩ := yields_of_wpOp hi hy h
    have h5 := wpOp_put hj hap hsi hsj (fun c a w hq => hq.elim) hv hn.2
    -- behind 'j' the frame is 'a' with 'j''s value
    have h6 : wpOp P ops (Only K') j (fun a' w' => (Yields P ops oi v a' ∧ K (a'.put oi.dst v) w') ∧ ∃ u, a'.tmps = (a.put oj.dst u).tmps) a w := by
      unfold wpOp at h5 ⊢
      simp only [hj] at h5 ⊢
      split
      · rename_i hw
        simp only [hw, if_true] at h5
        rcases h5 with h5 | h5
        · refine .inl ?_
          unfold Oper.wp at *
          generalize (execOp a.eval oj).run P w = r at *
          cases r with
          | ok n w' =>
            cases n <;> simp only [Oper.upon] at h5 ⊢
            case value v => exact ⟨h5, v, rfl⟩
            case skip => exact ⟨h5, undef, rfl⟩
            case defer d => exact ⟨h5, undef, by cases oj.dst <;> rfl⟩
            case enter f args =>
              refine Calls.mono h5 fun e w'' he => ?_
              cases e with
              | returned v => exact ⟨he, v, rfl⟩
              | panicked c => exact he.elim
              | outgrown => exact (letsOut_only he).elim
            case row row args => exact Rows.mono h5 fun v w'' he => ⟨he, v, rfl⟩
          | halt x w' => cases x <;> simp only [Oper.upon] at h5 ⊢; exact h5.elim
        · exact (letsOut_only h5.2).elim
      · rename_i hw
        simp only [hw] at h5
        exact ⟨h5, undef, rfl⟩
    exact wpOp_mono (fun a' w' h' => ⟨hfi2 a' h'.2, h'.1.1.wpOp hi h'.1.2⟩) h6
  · obtain ⟨a1, v, w1, ha1, hn⟩ := wpOp_some hi h
    obtain ⟨u, hu, _⟩ := yields_of_wpOp hj (hYj hc a1 hn.1) hn.2
    have hua : Yields P ops oj u a := by
      refine hu.of_same ?_ ?_
      · rw [eval_congr ha1, execOp_put oj hsj a oi.dst v h1]
      · rw [ha1, wanted_put oj a oi.dst v h1]
    refine hua.wpOp hj ⟨hfi1 u, wpOp_before hi hsi h3 h2' ?_⟩
    -- behind 'i', 'j' gives 'u' again
    unfold wpOp at h ⊢
    simp only [hi] at h ⊢
    have key : ∀ (a' : Act) (w' : World), (∃ x, a'.tmps = (a.put oi.dst x).tmps) → wpF P I S ops (Only K') j K a' w' → K (a'.put oj.dst u) w' := by
      intro a' w' ha' hk
      obtain ⟨u', hu', hk'⟩ := yields_of_wpOp hj (hYj hc a' hk.1) hk.2
      have hua' : Yields P ops oj u' a := by
        obtain ⟨x, ha'⟩ := ha'
        exact hu'.of_same (by rw [eval_congr ha', execOp_put oj hsj a oi.dst x h1]) (by rw [ha', wanted_put oj a oi.dst x h1])
      have : u' = u := by
        rcases hua' with ⟨hw, e⟩ | ⟨hw, e⟩ <;> rcases hua with ⟨hw', e'⟩ | ⟨hw', e'⟩
        · have := (e w).symm.trans (e' w); simpa using this
        · rw [hw] at hw'; cases hw'
        · rw [hw] at hw'; cases hw'
        · rw [e, e']
      rw [← this]; exact hk'
    split
    · rename_i hw
      simp only [hw, if_true] at h
      rcases h with h | h
      · refine .inl ?_
        unfold Oper.wp at *
        generalize (execOp a.eval oi).run P w = r at *
        cases r with
        | ok n w' =>
          cases n <;> simp only [Oper.upon] at h ⊢
          case value v => exact key _ _ ⟨v, rfl⟩ h
          case skip => exact key _ _ ⟨undef, rfl⟩ h
          case defer d => exact key _ _ ⟨undef, by cases oi.dst <;> rfl⟩ h
          case enter f args =>
            refine Calls.mono h fun e w'' he => ?_
            cases e with
            | returned v => exact key _ _ ⟨v, rfl⟩ he
            | panicked c => exact he.elim
            | outgrown => exact (letsOut_only he).elim
          case row row args => exact Rows.mono h fun v w'' he => key _ _ ⟨v, rfl⟩ he
        | halt x w' => cases x <;> simp only [Oper.upon] at h ⊢; exact h.elim
      · exact (letsOut_only h.2).elim
    · rename_i hw
      simp only [hw] at h
      exact key _ _ ⟨undef, rfl⟩ h
  · obtain ⟨v, hv, hn⟩ := quiet_of_wpOp hi (fun _ => quietN_of_cls hc) h
    obtain ⟨u, hu, hk⟩ := quiet_of_wpOp hj (fun _ => quietN_of_cls hcj) hn.2
    rw [wanted_put oj a oi.dst v h1, execOp_put oj hsj a oi.dst v h1] at hu
    refine wpOp_of_quiet (u := u) hj (hu.imp (fun h => ⟨h.1, h.2.1⟩) id) ⟨hfi1 u, wpOp_of_quiet (u := v) hi ?_ ?_⟩
    · rw [wanted_put oi a oj.dst u h3, execOp_put oi hsi a oj.dst u h3]; exact hv.imp (fun h => ⟨h.1, h.2.1⟩) id
    · rw [← Act.put_comm a v u h2]; exact hk
  · obtain ⟨v, hv, hn⟩ := quiet_of_wpOp hi (fun _ => quietN_of_cls hc) h
    rcases fresh_of_wpOp hj (fun _ => freshN_of_cls hcj) hn.2 with ⟨u, ob, hw, hu, hk⟩ | ⟨hw, hk⟩
    · rw [wanted_put oj a oi.dst v h1] at hw
      rw [execOp_put oj hsj a oi.dst v h1] at hu
      unfold wpOp
      simp only [hj, hw, if_true]
      refine .inl ?_
      unfold Oper.wp
      rw [hu]
      simp only [Oper.upon]
      refine ⟨hfi1 u, wpOp_of_quiet (u := v) hi ?_ ?_⟩
      · rw [wanted_put oi a oj.dst u h3, execOp_put oi hsi a oj.dst u h3]; exact hv.imp (fun h => ⟨h.1, h.2.2 ob⟩) id
      · rw [← Act.put_comm a v u h2]; exact hk
    · rw [wanted_put oj a oi.dst v h1] at hw
      refine wpOp_of_quiet (u := undef) hj (.inr ⟨hw, rfl⟩) ⟨hfi1 undef, wpOp_of_quiet (u := v) hi ?_ ?_⟩
      · rw [wanted_put oi a oj.dst undef h3, execOp_put oi hsi a oj.dst undef h3]; exact hv.imp (fun h => ⟨h.1, h.2.1⟩) id
      · rw [← Act.put_comm a v undef h2]; exact hk

/-! ### All orders -/

def wpAnyF (P : Program) (I S : List TypeId) (md : Region.Mode) (ops : Array Oper) (Q : Exit → Act → World → Prop) : Nat → Array Bool → Act → World → Prop
  | 0, listed, a, w => Region.ready md ops listed = [] ∧ Q .normal a w
  | fuel + 1, listed, a, w =>
    (Region.ready md ops listed = [] → Q .normal a w) ∧
    ∀ i ∈ Region.ready md ops listed, wpF P I S ops Q i (wpAnyF P I S md ops Q fuel (listed.setIfInBounds i true)) a w

theorem wpAny_of_F {md : Region.Mode} {K : Act → World → Prop} {Q : Exit → Act → World → Prop} (hQ : ∀ a w, K a w → Q .normal a w) : ∀ (fuel : Nat) (listed : Array Bool) (a : Act) (w : World), wpAnyF P I S md ops (Only K) fuel listed a w → wpAny P md ops Q fuel listed a w
  | 0, _, _, _, h => ⟨h.1, hQ _ _ h.2⟩
  | fuel + 1, _, a, w, h => by
    refine ⟨fun h0 => hQ _ _ (h.1 h0), fun i hi => ?_⟩
    have h1 := wpOp_mono (fun a' w' => wpAny_of_F hQ fuel _ a' w') (h.2 i hi).2
    unfold wpOp at h1 ⊢
    cases ho : ops[i]? with
    | none => simp only [ho] at h1 ⊢; exact h1
    | some o =>
      simp only [ho] at h1 ⊢
      split
      · rename_i hw
        simp only [hw, if_true] at h1
        rcases h1 with h1 | h1
        · refine .inl ?_
          unfold Oper.wp at *
          generalize (execOp a.eval o).run P w = r at *
          cases r with
          | ok n w' =>
            cases n <;> simp only [Oper.upon] at h1 ⊢ <;> first
              | exact h1
              | (refine Calls.mono h1 fun e w'' he => ?_; cases e with
                  | returned v => exact he
                  | panicked c => exact he.elim
                  | outgrown => exact (letsOut_only he).elim)
          | halt x w' => cases x <;> simp only [Oper.upon] at h1 ⊢; exact h1.elim
        · exact (letsOut_only h1.2).elim
      · rename_i hw
        simp only [hw] at h1
        exact h1

/-- 'j' waits for 'i', through others: by the table. -/
def tableOk (md : Region.Mode) (ops : Array Oper) (T : Array Nat) : Bool :=
  (List.range ops.size).all fun j => match ops[j]? with
    | none => true
    | some o => (List.range ops.size).all fun i => !(T.getD j 0).testBit i || o.after.any fun e => Region.binds md e && decide (e.on < j) && (e.on == i || (T.getD e.on 0).testBit i)

def Closed (md : Region.Mode) (ops : Array Oper) (listed : Array Bool) : Prop :=
  ∀ j oj, ops[j]? = some oj → listed.getD j false = true → ∀ e ∈ oj.after, Region.binds md e = true → listed.getD e.on false = true

theorem getD_both {listed : Array Bool} {i : Nat} (h : listed.getD i true = false) : listed.getD i false = false := by
  rcases Nat.lt_or_ge i listed.size with h' | h'
  · simp [h'] at h ⊢; exact h
  · simp [Array.getElem?_eq_none h'] at h

theorem table_spec {md : Region.Mode} {T : Array Nat} (hT : tableOk md ops T = true) {listed : Array Bool} (hc : Closed md ops listed) {i : Nat} (hi : listed.getD i false = false) (his : i < ops.size) :
    ∀ (n j : Nat), j ≤ n → ∀ oj, ops[j]? = some oj → (∀ e ∈ oj.after, Region.binds md e = true → listed.getD e.on false = true) → (T.getD j 0).testBit i = false := by
  intro n
  induction n using Nat.strongRecOn with
  | _ n ih =>
    intro j hj oj hoj hall
    cases hb : (T.getD j 0).testBit i with
    | false => rfl
    | true =>
      exfalso
      have hjs : j < ops.size := (Array.getElem?_eq_some_iff.1 hoj).1
      have h1 := List.all_eq_true.1 hT j (List.mem_range.2 hjs)
      simp only [hoj] at h1
      have h2 := List.all_eq_true.1 h1 i (List.mem_range.2 his)
      simp only [hb, Bool.not_true, Bool.false_or] at h2
      obtain ⟨e, he, hbe⟩ := Array.any_eq_true'.1 h2
      simp only [Bool.and_eq_true, decide_eq_true_eq, Bool.or_eq_true, beq_iff_eq] at hbe
      obtain ⟨⟨hb1, hlt⟩, h3⟩ := hbe
      have hl := hall e he hb1
      rcases h3 with h3 | h3
      · rw [h3, hi] at hl; cases hl
      · cases ho : ops[e.on]? with
        | none =>
          have : ops.size ≤ e.on := by
            rcases Nat.lt_or_ge e.on ops.size with h | h
            · simp [h] at ho
            · exact h
          omega
        | some oe =>
          have := ih e.on (by omega) e.on (Nat.le_refl _) oe ho (fun e' he' hb' => hc e.on oe ho hl e' he' hb')
          rw [this] at h3; cases h3

def compat (P : Program) (I S : List TypeId) (x y : Op) : Bool :=
  cls P I S x == .det || cls P I S y == .det || (cls P I S x == .quiet && (cls P I S y == .quiet || cls P I S y == .fresh))

def freeAt (P : Program) (I S : List TypeId) (ops : Array Oper) (T : Array Nat) (listed : Array Bool) (i : Nat) : Bool :=
  match ops[i]? with
  | none => false
  | some oi => (List.range ops.size).all fun j => j == i || listed.getD j true || (T.getD j 0).testBit i || match ops[j]? with
      | some oj => oi.apart ops oj && compat P I S oi.op oj.op
      | none => true

theorem Closed.set {md : Region.Mode} {listed : Array Bool} (hc : Closed md ops listed) {j : Nat} (hj : j ∈ Region.ready md ops listed) : Closed md ops (listed.setIfInBounds j true) := by
  obtain ⟨_, oj, hoj, hall⟩ := mem_ready.1 hj
  intro k ok hk hl e he hb
  by_cases hjk : j = k
  · subst hjk
    have : ok = oj := Option.some.inj (hk.symm.trans hoj)
    subst this
    exact getD_set_true (hall e he hb)
  · rw [getD_set_ne false hjk] at hl
    exact getD_set_true (hc k ok hk hl e he hb)

/-- **An operation that may come up is taken first.** -/
theorem first (hI : ∀ t ∈ I, ∃ k, P.underlying t = some (.int k)) {md : Region.Mode} {T : Array Nat} (hT : tableOk md ops T = true) (hs : Region.noSelect ops = true) {K : Act → World → Prop} {i : Nat} {oi : Oper} (hi : ops[i]? = some oi) :
    ∀ (fuel : Nat) (listed : Array Bool) (a : Act) (w : World), Closed md ops listed →
      (∀ j oj, ops[j]? = some oj → j ≠ i → listed.getD j true = false → (T.getD j 0).testBit i = false → oi.apart ops oj = true ∧ compat P I S oi.op oj.op = true) →
      i ∈ Region.ready md ops listed →
      wpF P I S ops (Only K) i (wpAnyF P I S md ops (Only K) fuel (listed.setIfInBounds i true)) a w → wpAnyF P I S md ops (Only K) (fuel + 1) listed a w := by
  intro fuel
  induction fuel with
  | zero =>
    intro listed a w hc hfree hr H
    refine ⟨fun h => (by rw [h] at hr; cases hr), fun j hj => ?_⟩
    by_cases hji : j = i
    · subst hji; exact H
    · have := ready_mono hj hji
      obtain ⟨a1, v, w1, _, h1⟩ := wpOp_some hi H.2
      rw [h1.1] at this
      cases this
  | succ fuel ih =>
    intro listed a w hc hfree hr H
    refine ⟨fun h => (by rw [h] at hr; cases hr), fun j hj => ?_⟩
    by_cases hji : j = i
    · subst hji; exact H
    · have hun := (mem_ready.1 hr).1
      obtain ⟨hjun, oj, hoj, hall⟩ := mem_ready.1 hj
      have his : i < ops.size := (Array.getElem?_eq_some_iff.1 hi).1
      have hTj := table_spec hT hc (getD_both hun) his j j (Nat.le_refl _) oj hoj hall
      obtain ⟨hap, hcm⟩ := hfree j oj hoj hji hjun hTj
      have hcm' : cls P I S oi.op = .det ∨ cls P I S oj.op = .det ∨ (cls P I S oi.op = .quiet ∧ (cls P I S oj.op = .quiet ∨ cls P I S oj.op = .fresh)) := by
        simpa [compat, or_assoc] using hcm
      have h1 : wpF P I S ops (Only K) i (wpF P I S ops (Only K) j (wpAnyF P I S md ops (Only K) fuel ((listed.setIfInBounds i true).setIfInBounds j true))) a w :=
        wpF_mono (fun a' w' h' => h'.2 j (ready_mono hj hji)) H
      have h2 := swap hI hi hoj (fun cs b => Region.noSelect_spec hs i oi cs b hi) (fun cs b => Region.noSelect_spec hs j oj cs b hoj) hap hcm' h1
      have hfree' : ∀ k ok, ops[k]? = some ok → k ≠ i → (listed.setIfInBounds j true).getD k true = false → (T.getD k 0).testBit i = false → oi.apart ops ok = true ∧ compat P I S oi.op ok.op = true := fun k ok hk hki hku hkt => by
        refine hfree k ok hk hki ?_ hkt
        by_cases hjk : j = k
        · subst hjk; exact hjun
        · rw [getD_set_ne true hjk] at hku; exact hku
      refine wpF_mono (fun a' w' h3 => ih (listed.setIfInBounds j true) a' w' (hc.set hj) hfree' (ready_mono hr (Ne.symm hji)) ?_) h2
      rw [Array.setIfInBounds_comm _ _ hji]
      exact h3

def lexOk (P : Program) (I S : List TypeId) (ops : Array Oper) (T : Array Nat) : Nat → Nat → Array Bool → Bool
  | 0, _, listed => (Region.ready .any ops listed).isEmpty
  | fuel + 1, k, listed => (Region.ready .any ops listed).contains k && freeAt P I S ops T listed k && lexOk P I S ops T fuel (k + 1) (listed.setIfInBounds k true)

/-- The text's order, the kinds of the operands asked. -/
def wpLex (P : Program) (I S : List TypeId) (ops : Array Oper) (Q : Exit → Act → World → Prop) : List Oper → Act → World → Prop
  | [], a, w => Q .normal a w
  | o :: rest, a, w =>
    if Region.wanted o (yielded ops a.tmps) then Fit I S a.eval o.op ∧ (o.wp P a w (wpLex P I S ops Q rest) Q ∨ (o.asks P a w ∧ LetsOut Q)) else wpLex P I S ops Q rest (a.put o.dst undef) w

theorem wpAnyF_lex (hI : ∀ t ∈ I, ∃ k, P.underlying t = some (.int k)) {T : Array Nat} (hT : tableOk .any ops T = true) (hs : Region.noSelect ops = true) {K : Act → World → Prop} :
    ∀ (l : List Oper) (k : Nat) (listed : Array Bool) (a : Act) (w : World), (∀ j, l[j]? = ops[k + j]?) → Closed .any ops listed →
      lexOk P I S ops T l.length k listed = true → wpLex P I S ops (Only K) l a w → wpAnyF P I S .any ops (Only K) l.length listed a w
  | [], _, _, _, _, _, _, hB, h => ⟨by simpa [lexOk] using hB, h⟩
  | o :: l, k, listed, a, w, hl, hc, hB, h => by
    have h0 : ops[k]? = some o := by simpa using (hl 0).symm
    simp only [List.length_cons, lexOk, Bool.and_eq_true] at hB
    obtain ⟨⟨hr, hf⟩, hB'⟩ := hB
    have hr' : k ∈ Region.ready .any ops listed := by simpa using hr
    refine first hI hT hs h0 l.length listed a w hc ?_ hr' ?_
    · intro j oj hj hne hun ht
      simp only [freeAt, h0, List.all_eq_true, List.mem_range] at hf
      have h1 := hf j (Array.getElem?_eq_some_iff.1 hj).1
      simp only [hj, Bool.or_eq_true, beq_iff_eq, hne, false_or, hun, Bool.false_eq_true, ht, Bool.and_eq_true] at h1
      exact h1
    · have hrec : ∀ a' w', wpLex P I S ops (Only K) l a' w' → wpAnyF P I S .any ops (Only K) l.length (listed.setIfInBounds k true) a' w' := fun a' w' h' =>
        wpAnyF_lex hI hT hs l (k + 1) _ a' w' (fun j => by have := hl (j + 1); simpa [Nat.add_assoc, Nat.add_comm 1 j] using this) (hc.set hr') hB' h'
      unfold wpLex at h
      refine wpF_mono hrec ⟨?_, ?_⟩
      · intro o' ho' hw
        rw [h0] at ho'
        have : o = o' := by simpa using ho'
        subst this
        rw [if_pos hw] at h
        exact h.1
      · unfold wpOp
        simp only [h0]
        split at h
        · rename_i hw; simp only [hw, if_true]; exact h.2
        · rename_i hw; simp only [hw]; exact h

def undrawOk (P : Program) (I S : List TypeId) (ops : Array Oper) : Bool :=
  Region.noSelect ops && tableOk .any ops (Region.before ops) && lexOk P I S ops (Region.before ops) ops.size 0 (Array.replicate ops.size false)

/-! ### The operands' kinds, asked by operations that do nothing else -/

def asksOf (I S : List TypeId) (o : Oper) : List Oper :=
  (intsOf I o.op).map (fun x => { dst := none, op := .unOp .xor 0 x, type := 0, pos := "", after := #[], guard := o.guard }) ++
  (strsOf S o.op).map (fun x => { dst := none, op := .binOp .lss 0 x (.const (.string ByteArray.empty)) 0, type := 0, pos := "", after := #[], guard := o.guard })
def withAsks (I S : List TypeId) : List Oper → List Oper
  | [] => []
  | o :: l => asksOf I S o ++ o :: withAsks I S l

theorem wpList_ask_int {K : Act → World → Prop} {g : Option (Nat × Bool)} {x : Operand} {rest : List Oper} {a : Act} {w : World}
    (h : wpList P ops (Only K) ({ dst := none, op := .unOp .xor 0 x, type := 0, pos := "", after := #[], guard := g } :: rest) a w) :
    (Region.wanted { dst := none, op := .unOp .xor 0 x, type := 0, pos := "", after := #[], guard := g : Oper } (yielded ops a.tmps) = true → ∃ k n, a.eval x = .int k n) ∧ wpList P ops (Only K) rest a w := by
  unfold wpList at h
  split at h
  · rename_i hw
    rcases h with h | h
    · unfold Oper.wp at h
      simp only [execOp, Op.unary] at h
      cases hx : a.eval x <;> simp [hx, stuck, unsupported, Oper.upon, Op.intBits] at h
      case int k n => exact ⟨fun _ => ⟨k, n, rfl⟩, h⟩
      case pointer p => cases p <;> simp at h
    · exact (letsOut_only h.2).elim
  · rename_i hw
    exact ⟨fun hw' => absurd hw' hw, h⟩
theorem wpList_ask_str {K : Act → World → Prop} {g : Option (Nat × Bool)} {x : Operand} {rest : List Oper} {a : Act} {w : World}
    (h : wpList P ops (Only K) ({ dst := none, op := .binOp .lss 0 x (.const (.string ByteArray.empty)) 0, type := 0, pos := "", after := #[], guard := g } :: rest) a w) :
    (Region.wanted { dst := none, op := .binOp .lss 0 x (.const (.string ByteArray.empty)) 0, type := 0, pos := "", after := #[], guard := g : Oper } (yielded ops a.tmps) = true → ∃ s, a.eval x = .string s) ∧ wpList P ops (Only K) rest a w := by
  unfold wpList at h
  split at h
  · rename_i hw
    rcases h with h | h
    · unfold Oper.wp at h
      have hc : a.eval (.const (.string ByteArray.empty)) = .string ByteArray.empty := rfl
      simp only [execOp, hc] at h
      generalize a.eval x = v at h ⊢
      cases v
      case string s => exact ⟨fun _ => ⟨s, rfl⟩, by simp [Oper.upon, Op.stringOp, binOp, eqGuard] at h; exact h⟩
      case pointer p => cases p <;> (simp [unsupported, Oper.upon, binOp, eqGuard] at h)
      all_goals (simp [stuck, Oper.upon, binOp, eqGuard] at h)
    · exact (letsOut_only h.2).elim
  · rename_i hw
    exact ⟨fun hw' => absurd hw' hw, h⟩

theorem wpLex_of_list {K : Act → World → Prop} : ∀ (l : List Oper) (a : Act) (w : World), wpList P ops (Only K) (withAsks I S l) a w → wpLex P I S ops (Only K) l a w
  | [], _, _, h => h
  | o :: l, a, w, h => by
    unfold withAsks asksOf at h
    have hints : ∀ (xs : List Operand) (rest : List Oper), wpList P ops (Only K) (xs.map (fun x => { dst := none, op := .unOp .xor 0 x, type := 0, pos := "", after := #[], guard := o.guard }) ++ rest) a w →
        (Region.wanted o (yielded ops a.tmps) = true → ∀ x ∈ xs, ∃ k n, a.eval x = .int k n) ∧ wpList P ops (Only K) rest a w := by
      intro xs
      induction xs with
      | nil => intro rest h; exact ⟨fun _ x hx => (by cases hx), h⟩
      | cons x xs ih =>
        intro rest h
        simp only [List.map_cons, List.cons_append] at h
        obtain ⟨h1, h2⟩ := wpList_ask_int h
        obtain ⟨h3, h4⟩ := ih rest h2
        refine ⟨fun hw y hy => ?_, h4⟩
        rcases List.mem_cons.1 hy with rfl | hy
        · exact h1 hw
        · exact h3 hw y hy
    have hstrs : ∀ (xs : List Operand) (rest : List Oper), wpList P ops (Only K) (xs.map (fun x => { dst := none, op := .binOp .lss 0 x (.const (.string ByteArray.empty)) 0, type := 0, pos := "", after := #[], guard := o.guard }) ++ rest) a w →
        (Region.wanted o (yielded ops a.tmps) = true → ∀ x ∈ xs, ∃ s, a.eval x = .string s) ∧ wpList P ops (Only K) rest a w := by
      intro xs
      induction xs with
      | nil => intro rest h; exact ⟨fun _ x hx => (by cases hx), h⟩
      | cons x xs ih =>
        intro rest h
        simp only [List.map_cons, List.cons_append] at h
        obtain ⟨h1, h2⟩ := wpList_ask_str h
        obtain ⟨h3, h4⟩ := ih rest h2
        refine ⟨fun hw y hy => ?_, h4⟩
        rcases List.mem_cons.1 hy with rfl | hy
        · exact h1 hw
        · exact h3 hw y hy
    rw [List.append_assoc] at h
    obtain ⟨h1, h⟩ := hints _ _ h
    obtain ⟨h2, h⟩ := hstrs _ _ h
    have hrec : ∀ a' w', wpList P ops (Only K) (withAsks I S l) a' w' → wpLex P I S ops (Only K) l a' w' := fun a' w' => wpLex_of_list l a' w'
    unfold wpList at h
    unfold wpLex
    split
    · rename_i hw
      rw [if_pos hw] at h
      refine ⟨⟨h1 hw, h2 hw⟩, ?_⟩
      rcases h with h | h
      · exact .inl (Oper.wp_mono hrec h)
      · exact .inr h
    · rename_i hw
      rw [if_neg hw] at h
      exact hrec _ _ h

/-- **A REGION THAT DRAWS ITS ORDER IS WALKED AS ITS TEXT STANDS.** -/
theorem wp_undraw {id : Nat} {Q : Exit → Act → World → Prop} {a : Act} {w : World} {l : List Oper} (I S : List TypeId) (hm : P.follows .mixedOrders = true)
    (hI : (I.all fun t => match P.underlying t with | some (.int _) => true | _ => false) = true) (hB : undrawOk P I S l.toArray = true)
    (h : ∀ K : Act → World → Prop, (∀ a w, Q .normal a w → K a w) → wpList P l.toArray (Only K) (withAsks I S l) a w.drew) : (Code.region id l.toArray true).wp P Q a w := by
  simp only [undrawOk, Bool.and_eq_true] at hB
  have hI' : ∀ t ∈ I, ∃ k, P.underlying t = some (.int k) := by
    intro t ht
    have := List.all_eq_true.1 hI t ht
    cases hu : P.underlying t with
    | none => simp [hu] at this
    | some D => cases D <;> simp [hu] at this; exact ⟨_, rfl⟩
  refine wp_region_any hm (wpAny_of_F (K := fun a w => Q .normal a w) (I := I) (S := S) (fun _ _ h => h) _ _ _ _ ?_)
  have h1 := wpLex_of_list _ _ _ (h (fun a w => Q .normal a w) (fun _ _ h => h))
  have h2 := wpAnyF_lex hI' hB.1.2 hB.1.1 l 0 (Array.replicate l.toArray.size false) a w.drew (by simp) (fun j oj hj hl => by exfalso; simp [Array.getElem?_replicate] at hl; split at hl <;> simp at hl) (by simpa using hB.2) h1
  simpa using h2
end swap
end
end Go.Undraw
