/- Plain: the accesses of a tick over a fresh memory of two clients. -/
import Derived.Test.YtpobpijjpbggoaaTickSame
set_option linter.unusedVariables false
namespace Go.MemF
open Go.Ten

/-- The tick and the memory after so many accesses. -/
def seqT : Nat → Tk × Mem
  | 0 => (Tk.new 2, Mem.new cfgN 2 8 Proofs.Ytpobpijjpbggoaa.root0)
  | i + 1 => ((seqT i).1.got ((seqT i).2.do_ 0 { kind := (seqT i).1.kind, n := (seqT i).1.n }).2.n ((seqT i).2.do_ 0 { kind := (seqT i).1.kind, n := (seqT i).1.n }).2.ok, ((seqT i).2.do_ 0 { kind := (seqT i).1.kind, n := (seqT i).1.n }).1)
def kindsT : Nat → List Int
  | 0 => []
  | i + 1 => kindsT i ++ [(seqT i).1.kind]
theorem kindsT_len : ∀ i, (kindsT i).length = i
  | 0 => rfl
  | i + 1 => by simp [kindsT, kindsT_len i]
theorem seqT_ok : ∀ i, MemOk (seqT i).2 ∧ TkOk (seqT i).1 ∧ (seqT i).1.clients = 2 ∧ (seqT i).2.clients = 2
  | 0 => by
    refine ⟨?_, ⟨by show (2 : Int) ≤ 8; omega, by show (1 : Nat) ≤ 4; omega, fun e => by cases e⟩, rfl, rfl⟩
    show MemOk (Mem.new cfgN 2 8 Proofs.Ytpobpijjpbggoaa.root0)
    have := mk_ok (rootR := ((Ar.upto cfgN 5).alloc 4 Proofs.Ytpobpijjpbggoaa.root0).2.1) arA_ok 0 2 0 (-1) [] (by omega) (by omega) (by omega) (by simp) (by simp)
    rw [new_mk 2 0]
    exact this
  | i + 1 => by
    obtain ⟨h1, h2, h3, h4⟩ := seqT_ok i
    refine ⟨h1.do_ 0 _ (by simp), (h2.got (by omega) _ _).1, ?_, ?_⟩
    · exact ((h2.got (by omega) _ _).2).trans h3
    · exact (Proofs.Ytpobpijjpbggoaa.do_clients _ _ _).trans h4
theorem seqT_facts : ((seqT 0).1.next ≠ 0 ∧ (seqT 1).1.next ≠ 0 ∧ (seqT 2).1.next ≠ 0 ∧ (seqT 3).1.next ≠ 0 ∧ (seqT 4).1.next ≠ 0) ∧ (seqT 5).1.next = 0 ∧ (seqT 5).1.took = true ∧ (seqT 5).2.ep.now = 1 ∧ kindsT 5 = [7, 10, 10, 11, 12] := by decide +kernel
theorem seqT_next (i : Nat) (h : i < 5) : (seqT i).1.next ≠ 0 := by
  obtain ⟨⟨h0, h1, h2, h3, h4⟩, -⟩ := seqT_facts
  match i, h with
  | 0, _ => exact h0
  | 1, _ => exact h1
  | 2, _ => exact h2
  | 3, _ => exact h3
  | 4, _ => exact h4
end Go.MemF
