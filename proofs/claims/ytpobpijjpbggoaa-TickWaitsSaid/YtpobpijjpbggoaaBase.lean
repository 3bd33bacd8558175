/- Words for memory that changes: blocks, what a step may change, slices that read as lists; what the walk needs of function values. -/
import Derived.Test.YtpobpijjpbggoaaProg
import Derived.Test.YtpobpijjpbggoaaUndraw
import Derived.WalkKit
import Derived.WalkSpells
import Derived.WalkLawsBesides
import Derived.Lib.Hide
import Derived.Laws.EntriesVeiled
import Derived.Maps.AppendAt
namespace Go.Ten
open Go Go.RowKit

/-- Block b holds these cells, none of them frozen. -/
def Blk (w : World) (b : Nat) (xs : List Value) (T : TypeId) : Prop := w.heap[b]? = some (.cells xs.toArray T (0, 0))

theorem Blk.cell {w : World} {b : Nat} {xs : List Value} {T : TypeId} (h : Blk w b xs T) (o : Nat) : w.cell? ⟨b, o, none⟩ = xs[o]? := by
  unfold Blk at h
  simp [World.cell?, h]
theorem Blk.frozen {w : World} {b : Nat} {xs : List Value} {T : TypeId} (h : Blk w b xs T) (o : Nat) : w.frozen? ⟨b, o, none⟩ = false := by
  unfold Blk at h
  simp [World.frozen?, h]
theorem Blk.lt {w : World} {b : Nat} {xs : List Value} {T : TypeId} (h : Blk w b xs T) : b < w.heap.size := by
  unfold Blk at h
  exact (Array.getElem?_eq_some_iff.1 h).1
theorem Blk.inj {w : World} {b : Nat} {xs ys : List Value} {T U : TypeId} (h : Blk w b xs T) (h' : Blk w b ys U) : xs = ys ∧ T = U := by
  unfold Blk at h h'
  rw [h] at h'
  simp at h'
  exact h'
theorem Blk.setCell {w : World} {b : Nat} {xs : List Value} {T : TypeId} (h : Blk w b xs T) (o : Nat) (v : Value) : Blk (w.setCell ⟨b, o, none⟩ v) b (xs.set o v) T := by
  unfold Blk at *
  simp only [World.setCell, Array.getElem?_modify, if_true, h, Option.map_some]
  simp
theorem Blk.setCell_ne {w : World} {b : Nat} {xs : List Value} {T : TypeId} (h : Blk w b xs T) {p : Addr} (hp : p.block ≠ b) (v : Value) : Blk (w.setCell p v) b xs T := by
  unfold Blk at *
  rw [← h]
  simp only [World.setCell, Array.getElem?_modify]
  rw [if_neg hp]
theorem Blk.alloc {w : World} {b : Nat} {xs : List Value} {T : TypeId} (h : Blk w b xs T) (o : Obj) : Blk (w.alloc o) b xs T := by
  have := h.lt
  unfold Blk at *
  rw [← h]
  show (w.heap.push o)[b]? = _
  rw [Array.getElem?_push, if_neg (by omega)]
theorem Blk.drew {w : World} {b : Nat} {xs : List Value} {T : TypeId} (h : Blk w b xs T) : Blk w.drew b xs T := h
theorem Blk.new (w : World) (xs : List Value) (T : TypeId) : Blk (w.alloc (.cells xs.toArray T)) w.heap.size xs T := by
  unfold Blk
  show (w.heap.push _)[w.heap.size]? = _
  simp

/-- From w to w' no block has changed but those of S; new ones may lie behind. -/
structure Upd (S : Nat → Prop) (w w' : World) : Prop where
  os : w'.os = w.os
  tape : w'.tape = w.tape
  output : w'.output = w.output
  size : w.heap.size ≤ w'.heap.size
  block : ∀ k, k < w.heap.size → ¬ S k → w'.heap[k]? = w.heap[k]?

section
variable {S S' : Nat → Prop} {w w' w'' : World}
theorem Upd.refl (S : Nat → Prop) (w : World) : Upd S w w := ⟨rfl, rfl, rfl, Nat.le_refl _, fun _ _ _ => rfl⟩
theorem Upd.trans (h : Upd S w w') (h' : Upd S' w' w'') (hs : ∀ k, k < w.heap.size → S' k → S k) : Upd S w w'' :=
  ⟨h'.os.trans h.os, h'.tape.trans h.tape, h'.output.trans h.output, Nat.le_trans h.size h'.size, fun k hk hn =>
    (h'.block k (Nat.lt_of_lt_of_le hk h.size) (fun hh => hn (hs k hk hh))).trans (h.block k hk hn)⟩
theorem Upd.mono (h : Upd S w w') (hs : ∀ k, k < w.heap.size → S k → S' k) : Upd S' w w' :=
  ⟨h.os, h.tape, h.output, h.size, fun k hk hn => h.block k hk (fun hh => hn (hs k hk hh))⟩
theorem Upd.alloc (h : Upd S w w') (o : Obj) : Upd S w (w'.alloc o) :=
  h.trans (S' := fun _ => False) ⟨rfl, rfl, rfl, by simp, fun k hk _ => Below.heap_alloc _ _ _ hk⟩ (fun _ _ h => h.elim)
theorem Upd.drew (h : Upd S w w') : Upd S w w'.drew := ⟨h.os, h.tape, h.output, h.size, h.block⟩
theorem Upd.setCell (h : Upd S w w') {p : Addr} (hp : S p.block ∨ w.heap.size ≤ p.block) (v : Value) : Upd S w (w'.setCell p v) :=
  h.trans (S' := fun k => k = p.block) ⟨rfl, rfl, rfl, by simp [World.setCell], fun k hk hn => Below.heap_setCell _ _ _ _ hn⟩ (fun k hk e => by
    subst e
    rcases hp with hp | hp
    · exact hp
    · omega)
theorem Upd.of_below {B : Nat} (h : Below B w w') : Upd (fun k => B ≤ k) w w' := ⟨h.os, h.tape, h.output, h.size, fun k _ hn => h.block k (by omega)⟩
theorem Upd.of_below' (h : Below w.heap.size w w') : Upd S w w' := ⟨h.os, h.tape, h.output, h.size, fun k hk _ => h.block k hk⟩
theorem Upd.below {B : Nat} (h : Upd S w w') (hB : B ≤ w.heap.size) (hs : ∀ k, k < B → ¬ S k) : Below B w w' := ⟨h.os, h.tape, h.output, h.size, fun k hk => h.block k (by omega) (hs k hk)⟩
theorem Upd.blk (h : Upd S w w') {b : Nat} (hb : ¬ S b) {xs : List Value} {T : TypeId} (hh : Blk w b xs T) : Blk w' b xs T := by
  have := hh.lt
  unfold Blk at *
  rw [h.block b this hb, hh]
theorem Upd.cell (h : Upd S w w') {p : Addr} (hb : ¬ S p.block) {v : Value} (hh : w.cell? p = some v) : w'.cell? p = some v := by
  have hlt : p.block < w.heap.size := by
    rcases Nat.lt_or_ge p.block w.heap.size with h1 | h1
    · exact h1
    · simp [World.cell?, Array.getElem?_eq_none h1] at hh
  rw [← hh]
  exact World.cell?_of_block (w := w) (h.block p.block hlt hb)
end

theorem upd_of_grown {w w' : World} {row : Option Nat} (h : w.grownBy w' row) : Upd (fun k => some k = row) w w' := ⟨h.os, h.tape, h.output, h.size, h.block⟩

/-! ### cells -/
theorem cell_lt {w : World} {p : Addr} {v : Value} (h : w.cell? p = some v) : p.block < w.heap.size := by
  rcases Nat.lt_or_ge p.block w.heap.size with h1 | h1
  · exact h1
  · simp [World.cell?, Array.getElem?_eq_none h1] at h
theorem cell_below {w w' : World} {B : Nat} (hb : Below B w w') {a : Addr} {v : Value} (h : w.cell? a = some v) (hB : a.block < B) : w'.cell? a = some v := by
  rw [← h]; exact World.cell?_of_block (w := w) (hb.block a.block hB)
theorem cell_grew {w w' : World} (hb : Below w.heap.size w w') {a : Addr} {v : Value} (h : w.cell? a = some v) : w'.cell? a = some v := cell_below hb h (cell_lt h)
theorem below_dN {B : Nat} (w : World) (n : Nat) : Below B w (w.drewN n) := ⟨rfl, rfl, rfl, Nat.le_refl _, fun _ _ => rfl⟩
theorem one_new (w : World) (x : Value) (t : TypeId) : ∀ j u, [x][j]? = some u → (w.alloc (.cells #[x] t)).cell? ⟨w.heap.size, j, none⟩ = some u := by
  intro j u hj
  match j, hj with
  | 0, hj => simp at hj; subst hj; simp
theorem two_new (w : World) (x y : Value) (t : TypeId) : ∀ j u, [x, y][j]? = some u → (w.alloc (.cells #[x, y] t)).cell? ⟨w.heap.size, j, none⟩ = some u := by
  intro j u hj
  match j, hj with
  | 0, hj => simp at hj; subst hj; simp
  | 1, hj => simp at hj; subst hj; simp

/-! ### append -/
theorem own_form {w : World} {base : Nat} {e : TypeId} {size n : Nat} {v : Value} {xs : List Value} (h : w.ownsRow base e size v n xs) : ∃ p cap, v = .slice p n cap ∧ (p = none → n = 0) ∧ (∀ a, p = some a → a = ⟨a.block, 0, none⟩) := by
  obtain ⟨_, h | ⟨g, cap, cur, hv, _⟩⟩ := h
  · exact ⟨none, 0, by rw [h.1, h.2], fun _ => h.2, fun a e => by cases e⟩
  · exact ⟨_, cap, hv, fun e => (by cases e), fun a e => by cases e; rfl⟩

theorem ownsRow_setCell_off {w : World} {base : Nat} {e : TypeId} {size n : Nat} {v : Value} {xs : List Value} (h : w.ownsRow base e size v n xs) {a : Addr} (ha : v.ownBlock ≠ some a.block) (u : Value) : (w.setCell a u).ownsRow base e size v n xs := by
  obtain ⟨h1, h2⟩ := h
  refine ⟨h1, ?_⟩
  rcases h2 with h2 | ⟨g, cap, cur, hv, hg, hh, r⟩
  · exact .inl h2
  · refine .inr ⟨g, cap, cur, hv, hg, ?_, r⟩
    have : g ≠ a.block := fun e => ha (by rw [hv]; simp [Value.ownBlock, e])
    rw [Below.heap_setCell _ _ _ _ this]; exact hh
theorem Upd.owns {S : Nat → Prop} {w w' : World} (h : Upd S w w') {base : Nat} {e : TypeId} {size n : Nat} {v : Value} {xs : List Value} (ho : w.ownsRow base e size v n xs) (hs : ∀ k, v.ownBlock = some k → ¬ S k) : w'.ownsRow base e size v n xs := by
  obtain ⟨h1, h2⟩ := ho
  refine ⟨h1, ?_⟩
  rcases h2 with h2 | ⟨g, cap, cur, hv, hg, hh, r⟩
  · exact .inl h2
  · refine .inr ⟨g, cap, cur, hv, hg, ?_, r⟩
    have hlt := (Array.getElem?_eq_some_iff.1 hh).1
    rw [h.block g hlt (hs g (by rw [hv]; rfl))]; exact hh

theorem own_ge {w : World} {base : Nat} {e : TypeId} {size n : Nat} {v : Value} {xs : List Value} (h : w.ownsRow base e size v n xs) {k : Nat} (hk : v.ownBlock = some k) : base ≤ k := by
  obtain ⟨_, h | ⟨g, cap, cur, hv, hg, _⟩⟩ := h
  · rw [h.1] at hk; simp [Value.ownBlock] at hk
  · rw [hv] at hk; simp [Value.ownBlock] at hk; omega
theorem Upd.below_own {w0 w w' : World} {base : Nat} {e : TypeId} {size n : Nat} {v : Value} {xs : List Value} (h : Upd (fun k => some k = v.ownBlock) w w') (ho : w.ownsRow base e size v n xs) (hB : base ≤ w.heap.size) (h0 : Below base w0 w) : Below base w0 w' :=
  h0.trans (h.below hB fun k hk e => by have := own_ge ho e.symm; omega)

theorem owns_base {w : World} {base base' : Nat} {e : TypeId} {size n : Nat} {v : Value} {xs : List Value} (h : w.ownsRow base e size v n xs) (hb : base' ≤ base) : w.ownsRow base' e size v n xs := by
  obtain ⟨h1, h2⟩ := h
  refine ⟨h1, ?_⟩
  rcases h2 with h2 | ⟨g, cap, cur, hv, hg, r⟩
  · exact .inl h2
  · exact .inr ⟨g, cap, cur, hv, by omega, r⟩

/-- One element more behind a slice of one's own. -/
theorem wpl_append1 {P : Program} {ops : Array Oper} {rest : List Oper} {o : Oper} {a : Act} {Q : Exit → Act → World → Prop} (w : World) (s x : Operand) (t e : TypeId)
    (hgd : o.guard = none) (ho : o.op = .call { callee := .builtin .append, args := #[s, x], argTypes := #[t, t] })
    (z : Value) (bytes : Nat) (ht : P.underlying t = some (.slice e)) (hi : (P.info? e).map (fun i => (i.zero, i.size, i.bytes)) = some (some z, 1, bytes)) (hz1 : z.cells.size = 1) (hb : bytes ≤ 1024)
    (p : Option Addr) (n cap : Nat) (xs : List Value) (B : Nat) (u : Value) (hs : a.eval s = .slice p n cap) (hx : a.eval x = .slice (some ⟨B, 0, none⟩) 1 1)
    (hown : w.ownsRow 0 e 1 (.slice p n cap) n xs) (hB : w.cell? ⟨B, 0, none⟩ = some u) (hu : u.oneCell' = true) (hn : n < 4294967296)
    (h : ∀ g cap' w', w'.ownsRow 0 e 1 (.slice (some ⟨g, 0, none⟩) (n + 1) cap') (n + 1) (xs ++ [u]) → Upd (fun k => some k = (Value.slice p n cap).ownBlock) w w' → (p = some ⟨g, 0, none⟩ ∨ g = w.heap.size) →
      wpList P ops Q rest (a.put o.dst (.slice (some ⟨g, 0, none⟩) (n + 1) cap')) w') : wpList P ops Q (o :: rest) a w := by
  cases hii : P.info? e with
  | none => simp [hii] at hi
  | some i =>
    simp only [hii, Option.map_some, Option.some.injEq, Prod.mk.injEq] at hi
    obtain ⟨hz, hsz, hby⟩ := hi
    refine wpList_append_own_at w hgd s x t ho 0 e i z 1 bytes ht hii hz hsz hby hz1 (by omega) _ n xs hs hown ⟨B, 0, none⟩ 1 1 [u] hx rfl ?_ ?_ ?_ ?_ (Nat.zero_le _) ?_
    · intro j y hj
      match j, hj with
      | 0, hj => simp at hj; subst hj; simpa [Addr.add] using hB
    · intro y hy; simp at hy; subst hy; exact hu
    · unfold maxLen; omega
    · calc (n + 1) * bytes ≤ 4294967296 * 1024 := Nat.mul_le_mul (by omega) hb
        _ ≤ 140737488355328 := by decide
    · intro v' w' h1 h2 _ h4
      obtain ⟨p', cap', rfl, hp0, hp1⟩ := own_form h1
      cases p' with
      | none => exact absurd (hp0 rfl) (by omega)
      | some a' =>
        rw [hp1 a' rfl] at h1 h4 ⊢
        refine h a'.block cap' w' h1 (upd_of_grown h2) ?_
        rcases h4 with h4 | h4
        · left
          cases p with
          | none => simp [Value.ownBlock] at h4
          | some q =>
            obtain ⟨p2, c2, hv, _, hp2⟩ := own_form hown
            simp only [Value.slice.injEq] at hv
            have := hp2 q hv.1.symm
            simp [Value.ownBlock] at h4
            rw [this, h4]
        · right; simpa [Value.ownBlock] using h4

/-- An element of several cells more behind a slice of one's own. -/
theorem wpl_appendk {P : Program} {ops : Array Oper} {rest : List Oper} {o : Oper} {a : Act} {Q : Exit → Act → World → Prop} (w : World) (s x : Operand) (t e : TypeId)
    (hgd : o.guard = none) (ho : o.op = .call { callee := .builtin .append, args := #[s, x], argTypes := #[t, t] })
    (size bytes : Nat) (ht : P.underlying t = some (.slice e)) (hi : (P.info? e).map (fun i => (i.zero.map (fun z => z.cells.size), i.size, i.bytes)) = some (some size, size, bytes)) (hsz0 : 0 < size) (hb : bytes ≤ 1024)
    (p : Option Addr) (n cap : Nat) (xs : List Value) (base B : Nat) (us : List Value) (hs : a.eval s = .slice p n cap) (hx : a.eval x = .slice (some ⟨B, 0, none⟩) 1 1) (hul : us.length = size)
    (hown : w.ownsRow base e size (.slice p n cap) n xs) (hbase : base ≤ w.heap.size) (hB : ∀ j u, us[j]? = some u → w.cell? ⟨B, j, none⟩ = some u) (hu : ∀ u ∈ us, u.oneCell' = true) (hn : n < 4294967296)
    (h : ∀ g cap' w', w'.ownsRow base e size (.slice (some ⟨g, 0, none⟩) (n + 1) cap') (n + 1) (xs ++ us) → Upd (fun k => some k = (Value.slice p n cap).ownBlock) w w' → (p = some ⟨g, 0, none⟩ ∨ g = w.heap.size) →
      wpList P ops Q rest (a.put o.dst (.slice (some ⟨g, 0, none⟩) (n + 1) cap')) w') : wpList P ops Q (o :: rest) a w := by
  cases hii : P.info? e with
  | none => simp [hii] at hi
  | some i =>
    simp only [hii, Option.map_some, Option.some.injEq, Prod.mk.injEq] at hi
    obtain ⟨hz, hsz, hby⟩ := hi
    cases hzz : i.zero with
    | none => simp [hzz] at hz
    | some z =>
    simp only [hzz, Option.map_some, Option.some.injEq] at hz
    refine wpList_append_own_at w hgd s x t ho base e i z size bytes ht hii hzz hsz hby hz hsz0 _ n xs hs hown ⟨B, 0, none⟩ 1 1 us hx (by omega) ?_ hu ?_ ?_ hbase ?_
    · intro j y hj
      have e : ((⟨B, 0, none⟩ : Addr).add j) = ⟨B, j, none⟩ := by simp only [Addr.add]; split <;> simp_all
      rw [e]
      exact hB j y hj
    · unfold maxLen; omega
    · calc (n + 1) * bytes ≤ 4294967296 * 1024 := Nat.mul_le_mul (by omega) hb
        _ ≤ 140737488355328 := by decide
    · intro v' w' h1 h2 _ h4
      obtain ⟨p', cap', rfl, hp0, hp1⟩ := own_form h1
      cases p' with
      | none => exact absurd (hp0 rfl) (by omega)
      | some a' =>
        rw [hp1 a' rfl] at h1 h4 ⊢
        refine h a'.block cap' w' h1 (upd_of_grown h2) ?_
        rcases h4 with h4 | h4
        · left
          cases p with
          | none => simp [Value.ownBlock] at h4
          | some q =>
            obtain ⟨p2, c2, hv, _, hp2⟩ := own_form hown
            simp only [Value.slice.injEq] at hv
            have := hp2 q hv.1.symm
            simp [Value.ownBlock] at h4
            rw [this, h4]
        · right; simpa [Value.ownBlock] using h4

/-! ### Function values held against nil -/
section
variable {P : Program} {t : TypeId} (w : World) {x y : Array TypeId} {z : Bool}
theorem run_equalIn_func (h : P.underlying t = some (.func x y z)) (d : Nat) (f : Fn) (a b : Array Value) : (Op.equalIn (d + 1) t (.func f a b) .nilFunc).run P w = .ok false w := by
  simp [Op.equalIn, run_underlying h]
theorem run_equalIn_nilfunc (h : P.underlying t = some (.func x y z)) (d : Nat) : (Op.equalIn (d + 1) t .nilFunc .nilFunc).run P w = .ok true w := by
  simp [Op.equalIn, run_underlying h]
theorem run_neq_func (h : P.underlying t = some (.func x y z)) (f : Fn) (a b : Array Value) : (binOp .neq t (.func f a b) .nilFunc).run P w = .ok (.bool true) w := by
  simp only [binOp]
  simp [Op.equal, Op.maxDepth, run_equalIn_func w h 9999]
theorem run_eql_func (h : P.underlying t = some (.func x y z)) (f : Fn) (a b : Array Value) : (binOp .eql t (.func f a b) .nilFunc).run P w = .ok (.bool false) w := by
  simp only [binOp]
  simp [Op.equal, Op.maxDepth, run_equalIn_func w h 9999]
theorem run_neq_nilfunc (h : P.underlying t = some (.func x y z)) : (binOp .neq t .nilFunc .nilFunc).run P w = .ok (.bool false) w := by
  simp only [binOp]
  simp [Op.equal, Op.maxDepth, run_equalIn_nilfunc w h 9999]
theorem run_eql_nilfunc (h : P.underlying t = some (.func x y z)) : (binOp .eql t .nilFunc .nilFunc).run P w = .ok (.bool true) w := by
  simp only [binOp]
  simp [Op.equal, Op.maxDepth, run_equalIn_nilfunc w h 9999]
end

/-- A contract at arguments that are spelled otherwise. -/
theorem calls_at {P : Program} {f : FuncId} {args args' : Array Value} {w : World} {R : Ending → World → Prop} (h : Calls P f args w R) (e : args' = args) : Calls P f args' w R := e ▸ h
end Go.Ten

namespace Go.Proofs.Ytpobpijjpbggoaa
/-- A region that draws its order, over this program. -/
theorem undraw {id : Nat} {Q : Exit → Act → World → Prop} {a : Act} {w : World} {l : List Oper} (hB : Undraw.undrawOk Try.prog [3, 36, 5, 134, 28] [9] l.toArray = true)
    (h : ∀ K : Act → World → Prop, (∀ a w, Q .normal a w → K a w) → wpList Try.prog l.toArray (Exit.then K (fun _ _ _ => False)) (Undraw.withAsks [3, 36, 5, 134, 28] [9] l) a w.drew) : (Code.region id l.toArray true).wp Try.prog Q a w :=
  Undraw.wp_undraw _ _ (by kernel_rfl) (by kernel_rfl) hB h
end Go.Proofs.Ytpobpijjpbggoaa
