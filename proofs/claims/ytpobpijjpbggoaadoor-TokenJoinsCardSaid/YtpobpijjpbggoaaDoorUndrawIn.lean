/- A region that draws its order is walked as its text stands: inside a round of a range over a function, too. -/
import Derived.Test.YtpobpijjpbggoaaDoorBase
import Derived.Test.YtpobpijjpbggoaaDoorRange
import Derived.OrdersIn
import Derived.TacticsIn
namespace Go.Undraw
open Go

variable {P : Program} {ops : Array Oper} {n l : Nat}

theorem upon_in {o : Oper} {a : Act} {K Kx : Act → World → Prop} {r : Result Next} (h : o.upon P a K (Only Kx) r) : o.uponIn (Fence.wide.inRound l) n P a K (Only Kx) r := by
  cases r with
  | ok x w' =>
    cases x with
    | value v => exact h
    | skip => exact h
    | defer d => exact h
    | enter f args =>
      refine ⟨fun hh => (by cases hh), ?_⟩
      exact CallsIn.inRound l (callsIn_wide.2 h)
    | row row args =>
      refine ⟨fun hh => (by cases hh), ?_⟩
      exact fun c cs _ => let ⟨v, w'', r, s⟩ := h c cs; ⟨v, w'', r, stepsIn_wide.2 s⟩
    | _ => exact h.elim
  | halt x w' => cases x <;> exact h

theorem wp_in {o : Oper} {a : Act} {w : World} {K Kx : Act → World → Prop} (hd : ∀ c, o.op ≠ .defer c) (h : o.wp P a w K (Only Kx)) : o.wpIn (Fence.wide.inRound l) n P a w K (Only Kx) := by
  refine ⟨fun _ _ => trivial, ?_⟩
  have e : o.semAt (Fence.wide.inRound l).round a.eval = execOp a.eval o := Oper.semAt_some l a.eval o hd
  rw [e]
  exact upon_in h

theorem wpAny_in {md : Region.Mode} {Kx : Act → World → Prop} (hd : ∀ (i : Nat) (o : Oper), ops[i]? = some o → ∀ c, o.op ≠ .defer c) :
    ∀ (fuel : Nat) (listed : Array Bool) (a : Act) (w : World), wpAny P md ops (Only Kx) fuel listed a w → wpAnyIn (Fence.wide.inRound l) n P md ops (Only Kx) fuel listed a w
  | 0, _, _, _, h => h
  | fuel + 1, listed, a, w, h => by
    refine ⟨h.1, fun i hi => ?_⟩
    have hop := h.2 i hi
    have hrec : ∀ a w, wpAny P md ops (Only Kx) fuel (listed.setIfInBounds i true) a w → wpAnyIn (Fence.wide.inRound l) n P md ops (Only Kx) fuel (listed.setIfInBounds i true) a w := wpAny_in hd fuel _
    unfold wpOp at hop
    unfold wpOpIn
    cases ho : ops[i]? with
    | none => rw [ho] at hop; exact hrec _ _ hop
    | some o =>
      rw [ho] at hop
      simp only at hop ⊢
      by_cases hw : Region.wanted o (yielded ops a.tmps) = true
      · rw [if_pos hw] at hop ⊢
        rcases hop with hop | hop
        · exact Oper.wpIn_mono hrec (wp_in (hd i o ho) hop)
        · exact absurd hop.2 letsOut_only
      · rw [if_neg hw] at hop ⊢
        exact ⟨fun _ _ => trivial, hrec _ _ hop⟩

def noDefer (o : Oper) : Bool := match o.op with | .defer _ => false | _ => true

theorem wp_undraw_in {id : Nat} {Q : Exit → Act → World → Prop} {a : Act} {w : World} {l' : List Oper} (I S : List TypeId) (hm : P.follows .mixedOrders = true)
    (hI : (I.all fun t => match P.underlying t with | some (.int _) => true | _ => false) = true) (hB : undrawOk P I S l'.toArray = true) (hd : l'.all noDefer = true)
    (h : ∀ K : Act → World → Prop, (∀ a w, Q .normal a w → K a w) → wpList P l'.toArray (Only K) (withAsks I S l') a w.drew) : (Code.region id l'.toArray true).wpIn (Fence.wide.inRound l) n P Q a w := by
  simp only [undrawOk, Bool.and_eq_true] at hB
  have hI' : ∀ t ∈ I, ∃ k, P.underlying t = some (.int k) := by
    intro t ht
    have := List.all_eq_true.1 hI t ht
    cases hu : P.underlying t with
    | none => simp [hu] at this
    | some D => cases D <;> simp [hu] at this; exact ⟨_, rfl⟩
  have h1 := wpLex_of_list _ _ _ (h (fun a w => Q .normal a w) (fun _ _ h => h))
  have h2 := wpAnyF_lex hI' hB.1.2 hB.1.1 l' 0 (Array.replicate l'.toArray.size false) a w.drew (by simp) (fun j oj hj hl => by exfalso; simp [Array.getElem?_replicate] at hl; split at hl <;> simp at hl) (by simpa using hB.2) h1
  have h3 := wpAny_of_F (Q := Only fun a w => Q .normal a w) (K := fun a w => Q .normal a w) (I := I) (S := S) (fun _ _ h => h) _ _ _ _ (by simpa using h2)
  refine Code.wpIn_mono (Q := Only fun a w => Q .normal a w) (fun e a w he => ?_) (wpIn_region_any hm (wpAny_in (fun i o ho c e => ?_) _ _ _ _ h3))
  · cases e <;> first | exact he | exact he.elim
  · have hmem : o ∈ l' := by
      have := Array.getElem?_eq_some_iff.1 ho
      obtain ⟨hi, rfl⟩ := this
      simp
    have := List.all_eq_true.1 hd o hmem
    simp [noDefer, e] at this
end Go.Undraw
namespace Go.Proofs.YtpobpijjpbggoaaDoor
open Go
theorem undraw_in {id n l : Nat} {Q : Exit → Act → World → Prop} {a : Act} {w : World} {l' : List Oper} (hB : Undraw.undrawOk Tryd.prog [3, 56, 5, 41, 24] [9] l'.toArray = true) (hd : l'.all Undraw.noDefer = true)
    (h : ∀ K : Act → World → Prop, (∀ a w, Q .normal a w → K a w) → wpList Tryd.prog l'.toArray (Exit.then K (fun _ _ _ => False)) (Undraw.withAsks [3, 56, 5, 41, 24] [9] l') a w.drew) : (Code.region id l'.toArray true).wpIn (Fence.wide.inRound l) n Tryd.prog Q a w :=
  Undraw.wp_undraw_in _ _ (by kernel_rfl) (by kernel_rfl) hB hd h
end Go.Proofs.YtpobpijjpbggoaaDoor
