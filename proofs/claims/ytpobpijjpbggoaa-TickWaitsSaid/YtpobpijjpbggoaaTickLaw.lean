/- Plain: what a tick's run does to a memory. -/
import Derived.Test.YtpobpijjpbggoaaMemNew
import Derived.Test.YtpobpijjpbggoaaTick
set_option linter.unusedVariables false
namespace Go.MemF
open Go.Ten

/-- A tick's run of so many accesses at most; is it over? -/
def Tk.loop : Nat → Tk → Mem → Mem × Bool
  | 0, _, M => (M, false)
  | f + 1, T, M => if T.next = 0 then (M, true) else Tk.loop f (T.got (M.do_ 0 { kind := T.kind, n := T.n }).2.n (M.do_ 0 { kind := T.kind, n := T.n }).2.ok) (M.do_ 0 { kind := T.kind, n := T.n }).1
def Runs (T : Tk) (M : Mem) (n : Nat) (M' : Mem) : Prop := Tk.loop n T M = (M', true)
theorem Runs.step {T : Tk} {M M' : Mem} {n : Nat} (h0 : T.next ≠ 0) (h : Runs (T.got (M.do_ 0 { kind := T.kind, n := T.n }).2.n (M.do_ 0 { kind := T.kind, n := T.n }).2.ok) (M.do_ 0 { kind := T.kind, n := T.n }).1 n M') : Runs T M (n + 1) M' := by
  unfold Runs Tk.loop
  rw [if_neg h0]
  exact h
theorem Runs.up {T : Tk} {M M' : Mem} : ∀ {n : Nat}, Runs T M n M' → Runs T M (n + 1) M'
  | 0, h => by unfold Runs Tk.loop at h; simp at h
  | n + 1, h => by
    unfold Runs at h ⊢
    unfold Tk.loop at h ⊢
    by_cases h0 : T.next = 0
    · rw [if_pos h0] at h ⊢; exact h
    · rw [if_neg h0] at h ⊢
      exact Runs.up h
theorem Runs.mono {T : Tk} {M M' : Mem} {n k : Nat} (h : Runs T M n M') (hk : n ≤ k) : Runs T M k M' := by
  induction k with
  | zero => obtain rfl : n = 0 := by omega
            exact h
  | succ k ih =>
    rcases Nat.lt_or_eq_of_le hk with h1 | rfl
    · exact (ih (by omega)).up
    · exact h

/-- A memory with these epochs. -/
def Mem.withEp (M : Mem) (E : Ep) : Mem := { M with ep := E }
def pinT (C e : Int) (c : Int) : Tk := { clients := C, kind := 10, n := c, next := 2, epoch := e, took := false }
def advT (C e : Int) : Tk := { clients := C, kind := 11, n := e, next := 3, epoch := e, took := false }
def colT (C e : Int) : Tk := { clients := C, kind := 12, n := 0, next := 4, epoch := e, took := false }
theorem do_epoch {M : Mem} (h : 1 ≤ M.clients) (k n : Int) : k = 7 → M.do_ 0 { kind := k, n := n } = (M, { n := M.ep.now }) := by
  rintro rfl
  unfold Mem.do_
  dsimp only
  rw [if_neg (by omega), if_neg (by decide), if_neg (by decide)]
  rfl
theorem do_pinOf {M : Mem} (h : 1 ≤ M.clients) (n : Int) : M.do_ 0 { kind := 10, n := n } = (M, { n := M.ep.pinOf n }) := by
  unfold Mem.do_
  dsimp only
  rw [if_neg (by omega), if_neg (by decide), if_neg (by decide), if_neg (by decide), if_neg (by decide), if_neg (by decide), if_pos rfl]
theorem do_adv {M : Mem} (h : 1 ≤ M.clients) (n : Int) : M.do_ 0 { kind := 11, n := n } = ({ M with ep := (M.ep.advance n).1 }, { ok := (M.ep.advance n).2 }) := by
  unfold Mem.do_
  dsimp only
  rw [if_neg (by omega), if_neg (by decide), if_neg (by decide), if_neg (by decide), if_neg (by decide), if_neg (by decide), if_neg (by decide), if_pos rfl]
theorem do_col {M : Mem} (h : 1 ≤ M.clients) (n : Int) : M.do_ 0 { kind := 12, n := n } = M.collect 0 := by
  unfold Mem.do_
  dsimp only
  rw [if_neg (by omega), if_neg (by decide), if_neg (by decide), if_neg (by decide), if_neg (by decide), if_neg (by decide), if_neg (by decide), if_neg (by decide), if_pos rfl]

/-- A pin that lets the epoch pass. -/
def okPin (E : Ep) (c : Int) : Prop := E.pinOf c < 0 ∨ E.pinOf c = E.now
theorem pins_ok {M M' : Mem} {C : Int} (hC : 1 ≤ M.clients) {n : Nat} : ∀ (j : Nat) (c : Int), c + j + 1 = C → (∀ d, c ≤ d → d < C → okPin M.ep d) → Runs (advT C M.ep.now) M n M' → Runs (pinT C M.ep.now c) M (n + j + 1) M'
  | 0, c, hc, hp, h => by
    refine Runs.step (by simp [pinT]) ?_
    have e : (pinT C M.ep.now c).got (M.ep.pinOf c) false = advT C M.ep.now := by
      have hk := hp c (Int.le_refl _) (by omega)
      unfold Tk.got pinT advT
      simp only
      rw [if_neg (by decide), if_pos trivial, if_neg (by rintro ⟨h1, h2⟩; rcases hk with h3 | h3; omega; exact h2 h3), if_neg (by omega)]
    show Runs ((pinT C M.ep.now c).got (M.do_ 0 { kind := 10, n := c }).2.n (M.do_ 0 { kind := 10, n := c }).2.ok) (M.do_ 0 { kind := 10, n := c }).1 n M'
    rw [do_pinOf hC]
    simp only
    rw [e]
    exact h
  | j + 1, c, hc, hp, h => by
    refine Runs.step (n := n + j + 1) (by simp [pinT]) ?_
    have e : (pinT C M.ep.now c).got (M.ep.pinOf c) false = pinT C M.ep.now (c + 1) := by
      have hk := hp c (Int.le_refl _) (by omega)
      unfold Tk.got pinT
      simp only
      rw [if_neg (by decide), if_pos trivial, if_neg (by rintro ⟨h1, h2⟩; rcases hk with h3 | h3; omega; exact h2 h3), if_pos (by omega)]
    show Runs ((pinT C M.ep.now c).got (M.do_ 0 { kind := 10, n := c }).2.n (M.do_ 0 { kind := 10, n := c }).2.ok) (M.do_ 0 { kind := 10, n := c }).1 (n + j + 1) M'
    rw [do_pinOf hC]
    simp only
    rw [e]
    exact pins_ok hC j (c + 1) (by omega) (fun d h1 h2 => hp d (by omega) h2) h
theorem pins_bad {M M' : Mem} {C : Int} (hC : 1 ≤ M.clients) {n : Nat} : ∀ (j : Nat) (c : Int), c + j + 1 = C → (∃ d, c ≤ d ∧ d < C ∧ ¬ okPin M.ep d) → Runs (colT C M.ep.now) M n M' → Runs (pinT C M.ep.now c) M (n + j + 1) M' := by
  intro j
  induction j with
  | zero =>
    rintro c hc ⟨d, h1, h2, h3⟩ h
    obtain rfl : d = c := by omega
    refine Runs.step (by simp [pinT]) ?_
    have e : (pinT C M.ep.now d).got (M.ep.pinOf d) false = colT C M.ep.now := by
      unfold okPin at h3
      unfold Tk.got pinT colT Tk.collect
      simp only
      rw [if_neg (by decide), if_pos trivial, if_pos (by omega)]
    show Runs ((pinT C M.ep.now d).got (M.do_ 0 { kind := 10, n := d }).2.n (M.do_ 0 { kind := 10, n := d }).2.ok) (M.do_ 0 { kind := 10, n := d }).1 n M'
    rw [do_pinOf hC]
    simp only
    rw [e]
    exact h
  | succ j ih =>
    rintro c hc hd h
    refine Runs.step (n := n + j + 1) (by simp [pinT]) ?_
    show Runs ((pinT C M.ep.now c).got (M.do_ 0 { kind := 10, n := c }).2.n (M.do_ 0 { kind := 10, n := c }).2.ok) (M.do_ 0 { kind := 10, n := c }).1 (n + j + 1) M'
    rw [do_pinOf hC]
    simp only
    by_cases hk : okPin M.ep c
    · have e : (pinT C M.ep.now c).got (M.ep.pinOf c) false = pinT C M.ep.now (c + 1) := by
        unfold Tk.got pinT
        simp only
        rw [if_neg (by decide), if_pos trivial, if_neg (by rintro ⟨h1, h2⟩; rcases hk with h3 | h3; omega; exact h2 h3), if_pos (by omega)]
      rw [e]
      refine ih (c + 1) (by omega) ?_ h
      obtain ⟨d, h1, h2, h3⟩ := hd
      refine ⟨d, ?_, h2, h3⟩
      rcases Int.lt_or_eq_of_le h1 with h4 | rfl
      · omega
      · exact absurd hk h3
    · have e : (pinT C M.ep.now c).got (M.ep.pinOf c) false = colT C M.ep.now := by
        unfold okPin at hk
        unfold Tk.got pinT colT Tk.collect
        simp only
        rw [if_neg (by decide), if_pos trivial, if_pos (by omega)]
      rw [e]
      exact h.mono (by omega)
/-- Nothing may be collected. -/
theorem col_none {M : Mem} (C e : Int) (hC : 1 ≤ M.clients) (h : M.collect 0 = (M, {})) : Runs (colT C e) M 2 M := by
  refine Runs.step (n := 1) (by simp [colT]) ?_
  show Runs ((colT C e).got (M.do_ 0 { kind := 12, n := 0 }).2.n (M.do_ 0 { kind := 12, n := 0 }).2.ok) (M.do_ 0 { kind := 12, n := 0 }).1 1 M
  rw [do_col hC, h]
  rfl
theorem col_one {M M' : Mem} (C e r : Int) (hC : 1 ≤ M.clients) (hC' : 1 ≤ M'.clients) (h : M.collect 0 = (M', { n := r, ok := true })) (h' : M'.collect 0 = (M', {})) : Runs (colT C e) M 3 M' := by
  refine Runs.step (n := 2) (by simp [colT]) ?_
  show Runs ((colT C e).got (M.do_ 0 { kind := 12, n := 0 }).2.n (M.do_ 0 { kind := 12, n := 0 }).2.ok) (M.do_ 0 { kind := 12, n := 0 }).1 2 M'
  rw [do_col hC, h]
  exact col_none C e hC' h'
/-- A run that brings the epoch on. -/
theorem run_on {M M' : Mem} (h : MemOk M) (hnow : M.ep.now < 1073741824) (hp : ∀ d, 0 ≤ d → d < M.clients → okPin M.ep d) (hc : Runs (colT M.clients M.ep.now) { M with ep := { M.ep with now := M.ep.now + 1 } } 3 M') : Tk.loop 60 (Tk.new M.clients) M = (M', true) := by
  have hC := h.clients
  have hf := h.ep.few
  have h1 : 1 ≤ M.clients := by omega
  have hadv : Runs (advT M.clients M.ep.now) M 4 M' := by
    refine Runs.step (n := 3) (by simp [advT]) ?_
    show Runs ((advT M.clients M.ep.now).got (M.do_ 0 { kind := 11, n := M.ep.now }).2.n (M.do_ 0 { kind := 11, n := M.ep.now }).2.ok) (M.do_ 0 { kind := 11, n := M.ep.now }).1 3 M'
    rw [do_adv h1]
    have e : M.ep.advance M.ep.now = ({ M.ep with now := M.ep.now + 1 }, true) := by unfold Ep.advance; rw [if_neg (by omega)]
    rw [e]
    exact hc
  obtain ⟨j, hj⟩ : ∃ j : Nat, (0 : Int) + j + 1 = M.clients := ⟨(M.clients - 1).toNat, by omega⟩
  have hpin := pins_ok (C := M.clients) h1 j 0 hj (fun d h1 h2 => hp d h1 h2) hadv
  have hnew : Runs (Tk.new M.clients) M (4 + j + 1 + 1) M' := by
    refine Runs.step (by simp [Tk.new]) ?_
    show Runs ((Tk.new M.clients).got (M.do_ 0 { kind := 7, n := 0 }).2.n (M.do_ 0 { kind := 7, n := 0 }).2.ok) (M.do_ 0 { kind := 7, n := 0 }).1 (4 + j + 1) M'
    rw [do_epoch h1 7 0 rfl]
    exact hpin
  exact hnew.mono (by omega)
/-- A run that does not. -/
theorem run_stay {M M' : Mem} (h : MemOk M) (hp : ∃ d, 0 ≤ d ∧ d < M.clients ∧ ¬ okPin M.ep d) (hc : Runs (colT M.clients M.ep.now) M 3 M') : Tk.loop 60 (Tk.new M.clients) M = (M', true) := by
  have hC := h.clients
  have hf := h.ep.few
  have h1 : 1 ≤ M.clients := by omega
  obtain ⟨j, hj⟩ : ∃ j : Nat, (0 : Int) + j + 1 = M.clients := ⟨(M.clients - 1).toNat, by omega⟩
  have hpin := pins_bad (C := M.clients) h1 j 0 hj hp hc
  have hnew : Runs (Tk.new M.clients) M (3 + j + 1 + 1) M' := by
    refine Runs.step (by simp [Tk.new]) ?_
    show Runs ((Tk.new M.clients).got (M.do_ 0 { kind := 7, n := 0 }).2.n (M.do_ 0 { kind := 7, n := 0 }).2.ok) (M.do_ 0 { kind := 7, n := 0 }).1 (3 + j + 1) M'
    rw [do_epoch h1 7 0 rfl]
    exact hpin
  exact hnew.mono (by omega)

/-! ### The arena of the statement -/
def cfgN : Nat → Nat | 0 => 40 | 1 => 24 | 2 => 8 | 3 => 4 | 4 => 2 | _ => 0
/-- What is known of the statement's arena: A fresh, B with a leaf, C with the leaf freed. -/
structure Facts (arA arB arC : Ar) (leafR rootR : Int) : Prop where
  alloc : arA.alloc 0 [] = (arB, leafR, 0)
  free : arB.freeSlot leafR = (arC, 0)
  liveA : arA.liveN = 1
  liveB : arB.liveN = 2
  liveC : arC.liveN = 1
  leaf : (parts leafR).2.2.2 = true
  ne : leafR ≠ rootR
  okA : ArOk arA
  okB : ArOk arB
  okC : ArOk arC
theorem arA_ok : ArOk ((Ar.upto cfgN 5).alloc 4 Proofs.Ytpobpijjpbggoaa.root0).1 := ((ArMk.upto cfgN 5 (by omega)).ok (by decide +kernel) (by decide +kernel)).alloc _ _ (by decide +kernel)
theorem facts : Facts ((Ar.upto cfgN 5).alloc 4 Proofs.Ytpobpijjpbggoaa.root0).1 (((Ar.upto cfgN 5).alloc 4 Proofs.Ytpobpijjpbggoaa.root0).1.alloc 0 []).1 ((((Ar.upto cfgN 5).alloc 4 Proofs.Ytpobpijjpbggoaa.root0).1.alloc 0 []).1.freeSlot (((Ar.upto cfgN 5).alloc 4 Proofs.Ytpobpijjpbggoaa.root0).1.alloc 0 []).2.1).1
    (((Ar.upto cfgN 5).alloc 4 Proofs.Ytpobpijjpbggoaa.root0).1.alloc 0 []).2.1 ((Ar.upto cfgN 5).alloc 4 Proofs.Ytpobpijjpbggoaa.root0).2.1 := by
  have h1 : (((Ar.upto cfgN 5).alloc 4 Proofs.Ytpobpijjpbggoaa.root0).1.alloc 0 []).2.2 = 0 := by decide +kernel
  have h2 : ((((Ar.upto cfgN 5).alloc 4 Proofs.Ytpobpijjpbggoaa.root0).1.alloc 0 []).1.freeSlot (((Ar.upto cfgN 5).alloc 4 Proofs.Ytpobpijjpbggoaa.root0).1.alloc 0 []).2.1).2 = 0 := by decide +kernel
  have h3 : ((Ar.upto cfgN 5).alloc 4 Proofs.Ytpobpijjpbggoaa.root0).1.liveN = 1 := by decide +kernel
  have h4 : (((Ar.upto cfgN 5).alloc 4 Proofs.Ytpobpijjpbggoaa.root0).1.alloc 0 []).1.liveN = 2 := by decide +kernel
  have h5 : ((((Ar.upto cfgN 5).alloc 4 Proofs.Ytpobpijjpbggoaa.root0).1.alloc 0 []).1.freeSlot (((Ar.upto cfgN 5).alloc 4 Proofs.Ytpobpijjpbggoaa.root0).1.alloc 0 []).2.1).1.liveN = 1 := by decide +kernel
  have h6 : (parts (((Ar.upto cfgN 5).alloc 4 Proofs.Ytpobpijjpbggoaa.root0).1.alloc 0 []).2.1).2.2.2 = true := by decide +kernel
  have h7 : (((Ar.upto cfgN 5).alloc 4 Proofs.Ytpobpijjpbggoaa.root0).1.alloc 0 []).2.1 ≠ ((Ar.upto cfgN 5).alloc 4 Proofs.Ytpobpijjpbggoaa.root0).2.1 := by decide +kernel
  have hA := arA_ok
  generalize ((Ar.upto cfgN 5).alloc 4 Proofs.Ytpobpijjpbggoaa.root0).2.1 = R at *
  generalize ((Ar.upto cfgN 5).alloc 4 Proofs.Ytpobpijjpbggoaa.root0).1 = A at *
  have hB := hA.alloc 0 [] (by simp)
  refine ⟨?_, ?_, h3, h4, h5, h6, h7, hA, hB, hB.freeSlot _⟩
  · exact Prod.ext rfl (Prod.ext rfl h1)
  · exact Prod.ext rfl h2

/-- The clients: one is pinned, the first one has retired something. -/
def clP (n k : Nat) (p : Int) (l : List (Int × Int)) : List Client := (List.range n).map fun i => ⟨if i = k then p else -1, if i = 0 then l else []⟩
theorem clP_len (n k : Nat) (p : Int) (l : List (Int × Int)) : (clP n k p l).length = n := by simp [clP]
theorem clP_get (n k : Nat) (p : Int) (l : List (Int × Int)) (i : Nat) (h : i < n) : (clP n k p l)[i]! = ⟨if i = k then p else -1, if i = 0 then l else []⟩ := by
  rw [getElem!_pos _ i (by rw [clP_len]; exact h)]
  simp [clP]
theorem clP_new (n k : Nat) : List.replicate n (⟨-1, []⟩ : Client) = clP n k (-1) [] := by
  apply List.ext_getElem
  · simp [clP]
  · intro i h1 h2
    simp [clP]
theorem clP_setPin (n k : Nat) (p q : Int) (l : List (Int × Int)) (h : k < n) : (clP n k p l).set k { (clP n k p l)[k]! with pin := q } = clP n k q l := by
  rw [clP_get _ _ _ _ _ h]
  apply List.ext_getElem
  · simp [clP]
  · intro i h1 h2
    rw [List.getElem_set]
    split
    · rename_i e; subst e; simp [clP]
    · rename_i e
      have e' : ¬ i = k := fun h => e h.symm
      simp [clP, e']
theorem clP_setLimbo (n k : Nat) (p : Int) (l l' : List (Int × Int)) (h : 0 < n) : (clP n k p l).set 0 { (clP n k p l)[0]! with limbo := l' } = clP n k p l' := by
  rw [clP_get _ _ _ _ _ h]
  apply List.ext_getElem
  · simp [clP]
  · intro i h1 h2
    rw [List.getElem_set]
    split
    · rename_i e; subst e; simp [clP]
    · rename_i e
      have e' : ¬ i = 0 := fun h => e h.symm
      simp [clP, e']
def mk (rootR : Int) (A : Ar) (now : Int) (cl : List Client) (n : Nat) : Mem := { ar := A, ep := { now := now, room := 8, clients := cl }, clients := n, root := rootR, holder := -1 }
theorem new_mk (n k : Nat) : Mem.new cfgN n 8 Proofs.Ytpobpijjpbggoaa.root0 = mk ((Ar.upto cfgN 5).alloc 4 Proofs.Ytpobpijjpbggoaa.root0).2.1 ((Ar.upto cfgN 5).alloc 4 Proofs.Ytpobpijjpbggoaa.root0).1 0 (clP n k (-1) []) n := by
  unfold Mem.new mk
  rw [clP_new n k]
variable {arA arB arC : Ar} {leafR rootR : Int}
section
variable (A : Ar) (now : Int) (n k : Nat) (hn : 1 ≤ n) (hk : k < n) (p : Int)
theorem mk_pinOf (l : List (Int × Int)) (d : Int) (h0 : 0 ≤ d) (h1 : d < n) : (mk rootR A now (clP n k p l) n).ep.pinOf d = if d = k then p else -1 := by
  unfold Ep.pinOf mk
  simp only [clP_len]
  rw [if_neg (by omega), clP_get _ _ _ _ _ (by omega)]
  simp only
  by_cases h : d = k
  · rw [if_pos (by omega), if_pos h]
  · rw [if_neg (by omega), if_neg h]
theorem mk_collect_nil : (mk rootR A now (clP n k p []) n).collect 0 = (mk rootR A now (clP n k p []) n, {}) := by
  have h : (mk rootR A now (clP n k p []) n).ep.collect 0 = ((mk rootR A now (clP n k p []) n).ep, 0, false) := by
    unfold Ep.collect mk
    simp only
    split
    · rfl
    · rename_i h
      rw [clP_len] at h
      have e : (0 : Int).toNat = 0 := rfl
      rw [e, clP_get _ _ _ _ _ (by omega)]
      rfl
  unfold Mem.collect
  rw [h]
  rfl
include hn in
theorem mk_collect_wait (r t : Int) (h2 : now - t < 2) : (mk rootR A now (clP n k p [(r, t)]) n).collect 0 = (mk rootR A now (clP n k p [(r, t)]) n, {}) := by
  have h : (mk rootR A now (clP n k p [(r, t)]) n).ep.collect 0 = ((mk rootR A now (clP n k p [(r, t)]) n).ep, 0, false) := by
    unfold Ep.collect mk
    simp only
    rw [clP_len, if_neg (by omega)]
    have e : (0 : Int).toNat = 0 := rfl
    rw [e, clP_get _ _ _ _ _ (by omega)]
    simp only [if_true]
    rw [if_pos h2]
  unfold Mem.collect
  rw [h]
  rfl
include hn in
theorem mk_collect_leaf (F : Facts arA arB arC leafR rootR) (h2 : 2 ≤ now - 1) : (mk rootR arB now (clP n k p [(leafR, 1)]) n).collect 0 = (mk rootR arC now (clP n k p []) n, { n := leafR, ok := true }) := by
  have h : (mk rootR arB now (clP n k p [(leafR, 1)]) n).ep.collect 0 = ({ now := now, room := 8, clients := clP n k p [] }, leafR, true) := by
    unfold Ep.collect mk
    simp only
    rw [clP_len, if_neg (by omega)]
    have e : (0 : Int).toNat = 0 := rfl
    rw [e]
    have hl : ((clP n k p [(leafR, 1)])[0]!).limbo = [(leafR, 1)] := by rw [clP_get _ _ _ _ _ (by omega)]; simp
    rw [hl]
    simp only
    rw [if_neg (by omega)]
    have h3 := clP_setLimbo n k p [(leafR, 1)] [] (by omega)
    unfold Ep.setC
    simp only [e]
    rw [h3]
  unfold Mem.collect
  rw [h]
  simp only
  have hf : (mk rootR arB now (clP n k p [(leafR, 1)]) n).ar.freeSlot leafR = (arC, 0) := F.free
  rw [hf]
  rfl
end
/-- The memory may be. -/
theorem mk_ok {A : Ar} (hA : ArOk A) (now : Int) (n k : Nat) (p : Int) (l : List (Int × Int)) (hn : 1 ≤ n ∧ n ≤ 8) (h0 : 0 ≤ now ∧ now ≤ 1000) (hp : -1 ≤ p ∧ p ≤ now) (hl : l.length ≤ 1) (ha : ∀ y ∈ l, 0 ≤ y.2 ∧ y.2 ≤ now) : MemOk (mk rootR A now (clP n k p l) n) := by
  have hm : ∀ x ∈ clP n k p l, ∃ i, x = ⟨if i = k then p else -1, if i = 0 then l else []⟩ := by
    intro x hx
    simp only [clP, List.mem_map] at hx
    obtain ⟨i, _, rfl⟩ := hx
    exact ⟨i, rfl⟩
  refine ⟨hA, ⟨⟨h0.1, by simp only [mk]; omega⟩, by simp [mk], by simp only [mk, clP_len]; omega, ?_, ?_, ?_⟩, by simp [mk, clP_len]⟩
  · intro x hx
    obtain ⟨i, rfl⟩ := hm x hx
    simp only [mk]
    split <;> omega
  · intro x hx
    obtain ⟨i, rfl⟩ := hm x hx
    show ((if i = 0 then l else []).length : Int) ≤ 8
    split
    · omega
    · simp
  · intro x hx y hy
    obtain ⟨i, rfl⟩ := hm x hx
    simp only [mk]
    simp only at hy
    split at hy
    · exact ha y hy
    · simp at hy

variable {n k : Nat} (hn : 1 ≤ n ∧ n ≤ 8) (hk : k < n)
include hn in
theorem law_on {A : Ar} (hA : ArOk A) (now p : Int) (h0 : 0 ≤ now ∧ now < 900) (hp : p = -1 ∨ p = now) : Tk.loop 60 (Tk.new n) (mk rootR A now (clP n k p []) n) = (mk rootR A (now + 1) (clP n k p []) n, true) := by
  refine run_on (M := mk rootR A now (clP n k p []) n) (mk_ok hA now n k p [] hn (by omega) (by omega) (by simp) (by simp)) (by simp only [mk]; omega) ?_ ?_
  · intro d h1 h2
    unfold okPin
    rw [mk_pinOf A now n k p [] d h1 h2]
    simp only [mk]
    split <;> omega
  · refine (col_none _ _ (by simp only [mk]; omega) ?_).up
    exact mk_collect_nil A (now + 1) n k p
include hn in
theorem law_one (F : Facts arA arB arC leafR rootR) (p : Int) (hp : p = -1 ∨ p = 1) : Tk.loop 60 (Tk.new n) (mk rootR arB 1 (clP n k p [(leafR, 1)]) n) = (mk rootR arB 2 (clP n k p [(leafR, 1)]) n, true) := by
  refine run_on (M := mk rootR arB 1 (clP n k p [(leafR, 1)]) n) (mk_ok F.okB 1 n k p _ hn (by omega) (by omega) (by simp) (by simp)) (by simp only [mk]; omega) ?_ ?_
  · intro d h1 h2
    unfold okPin
    rw [mk_pinOf arB 1 n k p _ d h1 h2]
    simp only [mk]
    split <;> omega
  · refine (col_none _ _ (by simp only [mk]; omega) ?_).up
    exact mk_collect_wait arB 2 n k hn.1 p leafR 1 (by omega)
include hn hk in
theorem law_stay (F : Facts arA arB arC leafR rootR) : Tk.loop 60 (Tk.new n) (mk rootR arB 2 (clP n k 1 [(leafR, 1)]) n) = (mk rootR arB 2 (clP n k 1 [(leafR, 1)]) n, true) := by
  refine run_stay (M := mk rootR arB 2 (clP n k 1 [(leafR, 1)]) n) (mk_ok F.okB 2 n k 1 _ hn (by omega) (by omega) (by simp) (by simp)) ⟨k, by omega, by simp only [mk]; omega, ?_⟩ ?_
  · unfold okPin
    rw [mk_pinOf arB 2 n k 1 _ k (by omega) (by omega), if_pos rfl]
    simp only [mk]
    omega
  · refine (col_none _ _ (by simp only [mk]; omega) ?_).up
    exact mk_collect_wait arB 2 n k hn.1 1 leafR 1 (by omega)
include hn in
theorem law_free (F : Facts arA arB arC leafR rootR) : Tk.loop 60 (Tk.new n) (mk rootR arB 2 (clP n k (-1) [(leafR, 1)]) n) = (mk rootR arC 3 (clP n k (-1) []) n, true) := by
  refine run_on (M := mk rootR arB 2 (clP n k (-1) [(leafR, 1)]) n) (mk_ok F.okB 2 n k (-1) _ hn (by omega) (by omega) (by simp) (by simp)) (by simp only [mk]; omega) ?_ ?_
  · intro d h1 h2
    unfold okPin
    rw [mk_pinOf arB 2 n k (-1) _ d h1 h2]
    split <;> omega
  · refine col_one _ _ leafR (by simp only [mk]; omega) (by simp only [mk]; omega) (mk_collect_leaf 3 n k hn.1 (-1) F (by omega)) (mk_collect_nil arC 3 n k (-1))
include hk in
theorem law_pin : (mk rootR arA 1 (clP n k (-1) []) n).do_ k { kind := 8, n := 1 } = (mk rootR arA 1 (clP n k 1 []) n, { ok := true }) := by
  unfold Mem.do_
  dsimp only
  rw [if_neg (by simp only [mk]; omega), if_neg (by decide), if_neg (by decide), if_neg (by decide), if_pos rfl]
  have e : (mk rootR arA 1 (clP n k (-1) []) n).ep.pin k 1 = ({ now := 1, room := 8, clients := clP n k 1 [] }, true) := by
    unfold Ep.pin mk
    simp only
    rw [clP_len, Int.toNat_natCast, if_neg (by omega)]
    unfold Ep.setC
    simp only [Int.toNat_natCast]
    rw [clP_setPin _ _ _ _ _ hk]
  rw [e]
  rfl
include hk in
theorem law_unpin (now : Int) : (mk rootR arB now (clP n k 1 [(leafR, 1)]) n).do_ k { kind := 9 } = (mk rootR arB now (clP n k (-1) [(leafR, 1)]) n, { ok := true }) := by
  unfold Mem.do_
  dsimp only
  rw [if_neg (by simp only [mk]; omega), if_neg (by decide), if_neg (by decide), if_neg (by decide), if_neg (by decide), if_pos rfl]
  have e : (mk rootR arB now (clP n k 1 [(leafR, 1)]) n).ep.unpin k = ({ now := now, room := 8, clients := clP n k (-1) [(leafR, 1)] }, true) := by
    unfold Ep.unpin mk
    simp only
    rw [clP_len, Int.toNat_natCast, if_neg (by omega)]
    unfold Ep.setC
    simp only [Int.toNat_natCast]
    rw [clP_setPin _ _ _ _ _ hk]
  rw [e]
  rfl
include hn in
theorem law_alloc (F : Facts arA arB arC leafR rootR) : (mk rootR arA 1 (clP n k 1 []) n).do_ 0 { kind := 4, cls := 0 } = (mk rootR arB 1 (clP n k 1 []) n, { n := leafR, err := 0 }) := by
  unfold Mem.do_
  dsimp only
  rw [if_neg (by simp only [mk]; omega), if_pos (by decide)]
  unfold Mem.slots
  dsimp only
  rw [if_neg (by decide), if_neg (by decide), if_neg (by decide), if_pos rfl]
  have e : (mk rootR arA 1 (clP n k 1 []) n).ar.alloc 0 [] = (arB, leafR, 0) := F.alloc
  rw [e]
  rfl
include hn in
theorem law_retire (F : Facts arA arB arC leafR rootR) : (mk rootR arB 1 (clP n k 1 []) n).do_ 0 { kind := 6, ref := leafR } = (mk rootR arB 1 (clP n k 1 [(leafR, 1)]) n, { err := 0 }) := by
  unfold Mem.do_
  dsimp only
  rw [if_neg (by simp only [mk]; omega), if_neg (by decide), if_pos rfl, if_neg (by exact F.ne)]
  have e : (mk rootR arB 1 (clP n k 1 []) n).ep.retire 0 leafR = ({ now := 1, room := 8, clients := clP n k 1 [(leafR, 1)] }, 0) := by
    unfold Ep.retire mk
    simp only
    rw [clP_len, F.leaf, if_neg (by simp; omega)]
    have e0 : (0 : Int).toNat = 0 := rfl
    rw [e0]
    have hl : ((clP n k 1 [])[0]!).limbo = [] := by rw [clP_get _ _ _ _ _ (by omega)]; simp
    rw [hl]
    rw [if_neg (by simp)]
    have h3 := clP_setLimbo n k 1 [] [(leafR, 1)] (by omega)
    unfold Ep.setC
    simp only [e0, List.nil_append]
    rw [h3]
  rw [e]
  rfl
end Go.MemF
