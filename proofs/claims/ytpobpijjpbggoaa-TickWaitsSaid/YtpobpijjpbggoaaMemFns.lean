/- Plain functions: refs, slots, the arena, the epochs, the memory that clients share. -/
namespace Go.MemF

/-- A ref of a slot. -/
def ref (slot gen : Int) (leaf : Bool) : Int :=
  if slot < 0 ∨ 1024 ≤ slot ∨ gen < 1 ∨ 1073741824 < gen then 0 else gen * 65536 + slot + (if leaf then 281474976710656 else 0)
/-- The parts of a ref. -/
def parts (r : Int) : Int × Int × Bool × Bool :=
  let s := r % 65536
  let g := r / 65536 % 4294967296
  let l := decide (r / 281474976710656 % 2 = 1)
  if r = 0 ∨ ref s g l ≠ r then (0, 0, false, false) else (s, g, l, true)
theorem parts_ref (s g : Int) (l : Bool) (h0 : 0 ≤ s) (h1 : s < 1024) (h2 : 1 ≤ g) (h3 : g ≤ 1073741824) : parts (ref s g l) = (s, g, l, true) ∧ ref s g l ≠ 0 := by
  unfold parts
  have e : ref s g l = g * 65536 + s + (if l then 281474976710656 else 0) := by
    unfold ref; rw [if_neg (by omega)]
  have a1 : ref s g l % 65536 = s := by rw [e]; split <;> omega
  have a2 : ref s g l / 65536 % 4294967296 = g := by rw [e]; split <;> omega
  have a3 : decide (ref s g l / 281474976710656 % 2 = 1) = l := by
    rw [e]
    cases l
    · simp only [Bool.false_eq_true, if_false, decide_eq_false_iff_not]; omega
    · simp only [if_true, decide_eq_true_eq]; omega
  have a4 : ref s g l ≠ 0 := by rw [e]; split <;> omega
  refine ⟨?_, a4⟩
  simp only [a1, a2, a3]
  rw [if_neg]
  simp [a4]
theorem parts_some {r s g : Int} {l : Bool} (h : parts r = (s, g, l, true)) : r = ref s g l ∧ 0 ≤ s ∧ s < 1024 ∧ 1 ≤ g ∧ g ≤ 1073741824 := by
  unfold parts at h
  simp only at h
  split at h
  · simp at h
  · rename_i hn
    simp only [Prod.mk.injEq, and_true] at h
    obtain ⟨h1, h2, h3⟩ := h
    rw [h1, h2, h3] at hn
    have hr : ref s g l = r := by
      apply Classical.byContradiction
      intro hh; exact hn (.inr hh)
    have h0 : r ≠ 0 := fun hh => hn (.inl hh)
    refine ⟨hr.symm, ?_⟩
    unfold ref at hr
    split at hr
    · exact absurd hr.symm h0
    · omega
theorem parts_none {r s g : Int} {l : Bool} (h : parts r = (s, g, l, false)) : s = 0 ∧ g = 0 ∧ l = false := by
  unfold parts at h
  simp only at h
  split at h
  · simp only [Prod.mk.injEq, and_true] at h; exact ⟨h.1.symm, h.2.1.symm, h.2.2.symm⟩
  · simp at h

/-! ### The arena -/
structure Slot where
  cls : Int
  gen : Int
  live : Bool
  words : List Int
deriving Inhabited
structure Ar where
  slots : List Slot
  free : List (List Int)

def size (c : Int) : Nat := if c = 0 then 8 else if c = 1 then 12 else if c = 2 then 24 else if c = 3 then 88 else if c = 4 then 264 else 0
def poisonWord : Int := 16045690984833335023
def poison (c : Int) : List Int := List.replicate (size c) poisonWord
def fill (c : Int) (ws : List Int) : List Int := ws ++ List.replicate (size c - ws.length) 0

/-- Take the least of some numbers, put one among them: rising lists. -/
def ins (n : Int) : List Int → List Int
  | [] => [n]
  | x :: l => if n ≤ x then n :: x :: l else x :: ins n l

def Ar.room (A : Ar) (c : Int) : Int := if c < 0 ∨ 5 ≤ c then 0 else (A.free[c.toNat]!).length
def Ar.liveN (A : Ar) : Int := A.slots.length - A.room 0 - A.room 1 - A.room 2 - A.room 3 - A.room 4
/-- A ref's slot: what is wrong, its place. -/
def Ar.of (A : Ar) (r : Int) : Int × Nat :=
  let p := parts r
  if p.2.2.2 = false ∨ A.slots.length ≤ p.1.toNat ∨ p.2.2.1 ≠ decide (A.slots[p.1.toNat]!.cls = 0) then (1, 0) else
  if A.slots[p.1.toNat]!.gen ≠ p.2.1 then (4, 0) else
  if A.slots[p.1.toNat]!.live = false then (3, 0) else (0, p.1.toNat)
def Ar.setSlot (A : Ar) (i : Nat) (s : Slot) : Ar := { A with slots := A.slots.set i s }
/-- The new arena, the ref, the error. -/
def Ar.alloc (A : Ar) (c : Int) (ws : List Int) : Ar × Int × Int :=
  if c < 0 ∨ 5 ≤ c ∨ size c < ws.length then (A, 0, 1) else
  match A.free[c.toNat]! with
  | [] => (A, 0, 2)
  | n :: l =>
    let s := A.slots[n.toNat]!
    ({ slots := A.slots.set n.toNat { s with live := true, words := fill s.cls ws }, free := A.free.set c.toNat l }, ref n s.gen (decide (c = 0)), 0)
def Ar.freeSlot (A : Ar) (r : Int) : Ar × Int :=
  let o := A.of r
  if o.1 ≠ 0 then (A, o.1) else
  let s := A.slots[o.2]!
  ({ slots := A.slots.set o.2 { s with gen := s.gen + 1, live := false, words := poison s.cls },
     free := if s.gen + 1 ≤ 1073741824 then A.free.set s.cls.toNat (ins o.2 A.free[s.cls.toNat]!) else A.free }, 0)
def Ar.load (A : Ar) (r : Int) : List Int × Int :=
  let o := A.of r
  if o.1 ≠ 0 then ([], o.1) else (A.slots[o.2]!.words, 0)
def Ar.store (A : Ar) (r : Int) (ws : List Int) : Ar × Int :=
  let o := A.of r
  if o.1 ≠ 0 then (A, o.1) else
  let s := A.slots[o.2]!
  if s.words.length < ws.length then (A, 1) else (A.setSlot o.2 { s with words := fill s.cls ws }, 0)
def Ar.swap (A : Ar) (r was : Int) (ws : List Int) : Ar × Bool × Int :=
  let o := A.of r
  if o.1 ≠ 0 then (A, false, o.1) else
  let s := A.slots[o.2]!
  if s.words.length < ws.length then (A, false, 1) else
  if s.words[0]! ≠ was then (A, false, 0) else (A.setSlot o.2 { s with words := fill s.cls ws }, true, 0)

/-- An arena that may be. -/
structure ArOk (A : Ar) : Prop where
  five : A.free.length = 5
  some : 0 < A.slots.length
  few : A.slots.length ≤ 1024
  cls : ∀ s ∈ A.slots, 0 ≤ s.cls ∧ s.cls < 5
  gen : ∀ s ∈ A.slots, 1 ≤ s.gen ∧ s.gen ≤ 1073741825
  words : ∀ s ∈ A.slots, s.words.length = size s.cls
  word : ∀ s ∈ A.slots, ∀ x ∈ s.words, 0 ≤ x ∧ x < 18446744073709551616
  free : ∀ c : Nat, c < 5 → ∀ n ∈ A.free[c]!, 0 ≤ n ∧ n < A.slots.length ∧ A.slots[n.toNat]!.cls = c ∧ A.slots[n.toNat]!.live = false ∧ A.slots[n.toNat]!.gen ≤ 1073741824
  rises : ∀ c : Nat, c < 5 → (A.free[c]!).Pairwise (· < ·)

/-! ### Epochs -/
structure Client where
  pin : Int
  limbo : List (Int × Int)
deriving Inhabited
structure Ep where
  now : Int
  room : Int
  clients : List Client
def Ep.pinOf (E : Ep) (c : Int) : Int := if c < 0 ∨ E.clients.length ≤ c.toNat then -1 else (E.clients[c.toNat]!).pin
def Ep.limboN (E : Ep) (c : Int) : Int := if c < 0 ∨ E.clients.length ≤ c.toNat then 0 else (E.clients[c.toNat]!).limbo.length
def Ep.setC (E : Ep) (c : Int) (x : Client) : Ep := { E with clients := E.clients.set c.toNat x }
def Ep.pin (E : Ep) (c n : Int) : Ep × Bool :=
  if c < 0 ∨ E.clients.length ≤ c.toNat ∨ n < 0 ∨ E.now < n then (E, false) else (E.setC c { E.clients[c.toNat]! with pin := n }, true)
def Ep.unpin (E : Ep) (c : Int) : Ep × Bool :=
  if c < 0 ∨ E.clients.length ≤ c.toNat then (E, false) else (E.setC c { E.clients[c.toNat]! with pin := -1 }, true)
def Ep.advance (E : Ep) (n : Int) : Ep × Bool := if E.now ≠ n ∨ 1073741824 ≤ E.now then (E, false) else ({ E with now := E.now + 1 }, true)
def Ep.retire (E : Ep) (c r : Int) : Ep × Int :=
  if c < 0 ∨ E.clients.length ≤ c.toNat ∨ (parts r).2.2.2 = false then (E, 1) else
  let x := E.clients[c.toNat]!
  if E.room ≤ x.limbo.length then (E, 2) else (E.setC c { x with limbo := x.limbo ++ [(r, E.now)] }, 0)
def Ep.collect (E : Ep) (c : Int) : Ep × Int × Bool :=
  if c < 0 ∨ E.clients.length ≤ c.toNat then (E, 0, false) else
  let x := E.clients[c.toNat]!
  match x.limbo with
  | [] => (E, 0, false)
  | (r, n) :: l => if E.now - n < 2 then (E, 0, false) else (E.setC c { x with limbo := l }, r, true)
structure EpOk (E : Ep) : Prop where
  now : 0 ≤ E.now ∧ E.now ≤ 1073741824
  room : 4 ≤ E.room ∧ E.room ≤ 64
  few : 1 ≤ E.clients.length ∧ E.clients.length ≤ 8
  pin : ∀ x ∈ E.clients, -1 ≤ x.pin ∧ x.pin ≤ E.now
  limbo : ∀ x ∈ E.clients, (x.limbo.length : Int) ≤ E.room
  at_ : ∀ x ∈ E.clients, ∀ y ∈ x.limbo, 0 ≤ y.2 ∧ y.2 ≤ E.now

/-! ### The memory -/
structure Acc where
  kind : Int
  ref : Int := 0
  cls : Int := 0
  n : Int := 0
  was : Int := 0
  words : List Int := []
deriving DecidableEq
structure Res where
  err : Int := 0
  n : Int := 0
  ok : Bool := false
  words : List Int := []
deriving DecidableEq
structure Mem where
  ar : Ar
  ep : Ep
  clients : Int
  root : Int
  holder : Int
def Mem.collect (M : Mem) (c : Int) : Mem × Res :=
  let e := M.ep.collect c
  if e.2.2 = false then (M, {}) else
  let f := M.ar.freeSlot e.2.1
  if f.2 ≠ 0 then ({ M with ep := e.1, ar := f.1 }, { err := f.2 }) else ({ M with ep := e.1, ar := f.1 }, { n := e.2.1, ok := true })
def Mem.turn (M : Mem) (c k : Int) : Mem × Res :=
  if k = 13 then (M, { n := M.holder }) else
  if k = 14 ∧ M.holder < 0 then ({ M with holder := c }, { ok := true }) else
  if k = 15 ∧ M.holder = c then ({ M with holder := -1 }, { ok := true }) else (M, {})
def Mem.slots (M : Mem) (a : Acc) : Mem × Res :=
  if a.kind = 1 then (M, { words := (M.ar.load a.ref).1, err := (M.ar.load a.ref).2 }) else
  if a.kind = 2 then ({ M with ar := (M.ar.swap a.ref a.was a.words).1 }, { ok := (M.ar.swap a.ref a.was a.words).2.1, err := (M.ar.swap a.ref a.was a.words).2.2 }) else
  if a.kind = 3 then ({ M with ar := (M.ar.store a.ref a.words).1 }, { err := (M.ar.store a.ref a.words).2 }) else
  if a.kind = 4 then ({ M with ar := (M.ar.alloc a.cls a.words).1 }, { n := (M.ar.alloc a.cls a.words).2.1, err := (M.ar.alloc a.cls a.words).2.2 }) else
  if a.kind = 5 then (if a.ref = M.root then (M, { err := 1 }) else ({ M with ar := (M.ar.freeSlot a.ref).1 }, { err := (M.ar.freeSlot a.ref).2 })) else (M, {})
/-- An access of a client. -/
def Mem.do_ (M : Mem) (c : Int) (a : Acc) : Mem × Res :=
  if c < 0 ∨ M.clients ≤ c then (M, { err := 1 }) else
  if 1 ≤ a.kind ∧ a.kind ≤ 5 then M.slots a else
  if a.kind = 6 then (if a.ref = M.root then (M, { err := 1 }) else ({ M with ep := (M.ep.retire c a.ref).1 }, { err := (M.ep.retire c a.ref).2 })) else
  if a.kind = 7 then (M, { n := M.ep.now }) else
  if a.kind = 8 then ({ M with ep := (M.ep.pin c a.n).1 }, { ok := (M.ep.pin c a.n).2 }) else
  if a.kind = 9 then ({ M with ep := (M.ep.unpin c).1 }, { ok := (M.ep.unpin c).2 }) else
  if a.kind = 10 then (M, { n := M.ep.pinOf a.n }) else
  if a.kind = 11 then ({ M with ep := (M.ep.advance a.n).1 }, { ok := (M.ep.advance a.n).2 }) else
  if a.kind = 12 then M.collect c else
  if 13 ≤ a.kind ∧ a.kind ≤ 15 then M.turn c a.kind else (M, { err := 1 })
structure MemOk (M : Mem) : Prop where
  ar : ArOk M.ar
  ep : EpOk M.ep
  clients : M.clients = M.ep.clients.length
end Go.MemF
