/- Maps keyed by integers: what a lookup, a store, a delete do to a map's block. -/
import Derived.Test.YtpobpijjpbggoaaBase
set_option linter.unusedSimpArgs false
set_option linter.unusedVariables false
namespace Go.Ten
open Go Go.RowKit

/-- Block b is a map that holds these pairs. -/
def IMap (w : World) (b : Nat) (m : List (Int × Value)) : Prop :=
  ∃ es clock, w.heap[b]? = some (.map es clock) ∧ es.toList.map (fun e => (e.key, e.val)) = m.map (fun p => (Value.int .i64 p.1, p.2)) ∧ (m.map (·.1)).Nodup

theorem IMap.lt {w : World} {b : Nat} {m : List (Int × Value)} (h : IMap w b m) : b < w.heap.size := by
  obtain ⟨es, clock, h1, _⟩ := h
  exact (Array.getElem?_eq_some_iff.1 h1).1
theorem IMap.upd {S : Nat → Prop} {w w' : World} (hu : Upd S w w') {b : Nat} {m : List (Int × Value)} (hb : ¬ S b) (h : IMap w b m) : IMap w' b m := by
  have hlt := h.lt
  obtain ⟨es, clock, h1, h2⟩ := h
  exact ⟨es, clock, by rw [hu.block b hlt hb]; exact h1, h2⟩

def mget : List (Int × Value) → Int → Option Value
  | [], _ => none
  | (j, u) :: m, k => if k = j then some u else mget m k
def mput : List (Int × Value) → Int → Value → List (Int × Value)
  | [], k, v => [(k, v)]
  | (j, u) :: m, k, v => if k = j then (k, v) :: m else (j, u) :: mput m k v
def mdel (m : List (Int × Value)) (k : Int) : List (Int × Value) := m.filter fun p => p.1 ≠ k
theorem mput_keys (m : List (Int × Value)) (k : Int) (v : Value) : ∀ j, j ∈ (mput m k v).map (·.1) ↔ j = k ∨ j ∈ m.map (·.1) := by
  induction m with
  | nil => intro j; simp [mput]
  | cons p m ih =>
    obtain ⟨a, u⟩ := p
    intro j
    unfold mput
    split
    · rename_i h; subst h; simp
    · simp only [List.map_cons, List.mem_cons, ih j]; constructor <;> (rintro (h | h | h) <;> simp [h])
theorem mput_nodup (m : List (Int × Value)) (k : Int) (v : Value) (h : (m.map (·.1)).Nodup) : ((mput m k v).map (·.1)).Nodup := by
  induction m with
  | nil => simp [mput]
  | cons p m ih =>
    obtain ⟨a, u⟩ := p
    simp only [List.map_cons, List.nodup_cons] at h
    unfold mput
    split
    · rename_i h'; subst h'; simpa using h
    · rename_i h'
      simp only [List.map_cons, List.nodup_cons, mput_keys]
      exact ⟨fun hh => by rcases hh with hh | hh; exact h' hh.symm; exact h.1 hh, ih h.2⟩
theorem mdel_keys (m : List (Int × Value)) (k j : Int) : j ∈ (mdel m k).map (·.1) ↔ j ∈ m.map (·.1) ∧ j ≠ k := by
  unfold mdel
  simp only [List.mem_map, List.mem_filter]
  constructor
  · rintro ⟨p, ⟨h1, h2⟩, rfl⟩; exact ⟨⟨p, h1, rfl⟩, by simpa using h2⟩
  · rintro ⟨⟨p, h1, rfl⟩, h2⟩; exact ⟨p, ⟨h1, by simpa using h2⟩, rfl⟩
theorem mdel_nodup (m : List (Int × Value)) (k : Int) (h : (m.map (·.1)).Nodup) : ((mdel m k).map (·.1)).Nodup := by
  unfold mdel
  exact h.sublist (List.filter_sublist.map _)
theorem mput_get (m : List (Int × Value)) (k : Int) (v : Value) (j : Int) : mget (mput m k v) j = if j = k then some v else mget m j := by
  induction m with
  | nil => simp [mput, mget]
  | cons p m ih =>
    obtain ⟨a, u⟩ := p
    unfold mput
    split
    · rename_i h; subst h
      simp only [mget]
      by_cases h : j = k <;> simp [h]
    · rename_i h
      simp only [mget, ih]
      by_cases h1 : j = a
      · subst h1; simp; intro e; exact absurd e.symm h
      · simp [h1]
theorem mdel_get (m : List (Int × Value)) (k j : Int) : mget (mdel m k) j = if j = k then none else mget m j := by
  induction m with
  | nil => simp [mdel, mget]
  | cons p m ih =>
    obtain ⟨a, u⟩ := p
    unfold mdel at ih ⊢
    by_cases h : a = k
    · subst h
      simp only [List.filter_cons, ne_eq, not_true_eq_false, decide_false, Bool.false_eq_true, if_false, mget]
      rw [ih]
      by_cases h1 : j = a <;> simp [h1]
    · simp only [List.filter_cons, ne_eq, h, not_false_eq_true, decide_true, if_true, mget]
      rw [ih]
      by_cases h1 : j = a
      · subst h1; simp [h]
      · simp [h1]
theorem mget_mem (m : List (Int × Value)) (k : Int) : (mget m k).isSome = true ↔ k ∈ m.map (·.1) := by
  induction m with
  | nil => simp [mget]
  | cons p m ih =>
    obtain ⟨a, u⟩ := p
    simp only [mget, List.map_cons, List.mem_cons, ← ih]
    by_cases h : k = a <;> simp [h]

section
variable {P : Program}
theorem findNow_int (k : Int) : ∀ (es : List MapEntry) (m : List (Int × Value)) (i : Nat), es.map (fun e => (e.key, e.val)) = m.map (fun p => (Value.int .i64 p.1, p.2)) →
    ∃ r, Instr.findNow (.int .i64) (.int .i64 k) es i = some r ∧ (match r with
      | none => mget m k = none
      | some (j, v) => i ≤ j ∧ j < i + m.length ∧ mget m k = some v ∧ ∃ pre u post, m = pre ++ (k, u) :: post ∧ j = i + pre.length ∧ k ∉ pre.map (·.1))
  | [], m, i, h => by
    have : m = [] := by simpa using h.symm
    subst this
    exact ⟨none, rfl, rfl⟩
  | e :: es, m, i, h => by
    cases m with
    | nil => simp at h
    | cons p m =>
      obtain ⟨a, u⟩ := p
      simp only [List.map_cons, List.cons.injEq, Prod.mk.injEq] at h
      obtain ⟨⟨h1, h2⟩, h3⟩ := h
      unfold Instr.findNow
      rw [h1]
      simp only [Instr.sameNow, if_true]
      by_cases hk : k = a
      · subst hk
        refine ⟨some (i, e.val), by simp, Nat.le_refl _, by simp, by simp [h2, mget], [], u, m, rfl, by simp, by simp⟩
      · have hka : (k == a) = false := by simpa using hk
        rw [hka]
        obtain ⟨r, hr, hm⟩ := findNow_int k es m (i + 1) h3
        refine ⟨r, hr, ?_⟩
        cases r with
        | none => simp only [mget, if_neg hk]; exact hm
        | some q =>
          obtain ⟨j, v⟩ := q
          obtain ⟨ha, hb, hc, pre, u', post, hd, he, hf⟩ := hm
          refine ⟨by omega, by simp; omega, by simp only [mget, if_neg hk]; exact hc, (a, u) :: pre, u', post, by simp [hd], by simp; omega, ?_⟩
          simp only [List.map_cons, List.mem_cons, not_or]
          exact ⟨hk, hf⟩

theorem run_checkKey_int {K : TypeId} {e : Bool} (hK : P.underlying K = some (.int .i64)) (k : Int) (w : World) : (Instr.checkKey e 10000 K (.int .i64 k)).run P w = .ok () w := by
  show (Instr.checkKey e (9999 + 1) K (.int .i64 k)).run P w = _
  unfold Instr.checkKey
  simp [run_underlying hK]
theorem run_getMap {w : World} {b : Nat} {es : Array MapEntry} {c : Nat} (h : w.heap[b]? = some (.map es c)) : (getObj b).run P w = .ok (.map es c) w := by
  simp [getObj, Sem.run, h]
theorem run_findKey_int {K : TypeId} (hK : P.underlying K = some (.int .i64)) (k : Int) {es : List MapEntry} {m : List (Int × Value)} (h : es.map (fun e => (e.key, e.val)) = m.map (fun p => (Value.int .i64 p.1, p.2))) (w : World) :
    ∃ r, (Instr.findKey K (.int .i64 k) es).run P w = .ok r w ∧ (match r with
      | none => mget m k = none
      | some (j, v) => 0 ≤ j ∧ j < 0 + m.length ∧ mget m k = some v ∧ ∃ pre u post, m = pre ++ (k, u) :: post ∧ j = 0 + pre.length ∧ k ∉ pre.map (·.1)) := by
  obtain ⟨r, hr, hm⟩ := findNow_int k es m 0 h
  exact ⟨r, by unfold Instr.findKey; simp [run_underlying hK, hr], hm⟩

/-- 'v, ok := m[k]'. -/
theorem imap_lookup_ok {T K E : TypeId} {z : Value} (hT : P.underlying T = some (.map K E)) (hK : P.underlying K = some (.int .i64)) (w : World) (hz : (zeroValue E).run P w = .ok z w) {b : Nat} {m : List (Int × Value)} (h : IMap w b m) (k : Int) :
    (Instr.lookup T (.map (some b)) (.int .i64 k) true).run P w = .ok (.tuple #[(mget m k).getD z, .bool (mget m k).isSome]) w := by
  obtain ⟨es, clock, h1, h2, h3⟩ := h
  obtain ⟨r, hr, hm⟩ := run_findKey_int (P := P) hK k h2 w
  unfold Instr.lookup
  simp only [Sem.run_bind, run_underlying hT, Result.andThen_ok, run_getMap h1, Sem.run_pure, run_checkKey_int hK, hr]
  cases r with
  | none => simp only at hm; simp [hm, hz]
  | some q => obtain ⟨j, v⟩ := q; simp only at hm; simp [hm.2.2.1]
theorem imap_lookup {T K E : TypeId} {z : Value} (hT : P.underlying T = some (.map K E)) (hK : P.underlying K = some (.int .i64)) (w : World) (hz : (zeroValue E).run P w = .ok z w) {b : Nat} {m : List (Int × Value)} (h : IMap w b m) (k : Int) :
    (Instr.lookup T (.map (some b)) (.int .i64 k) false).run P w = .ok ((mget m k).getD z) w := by
  obtain ⟨es, clock, h1, h2, h3⟩ := h
  obtain ⟨r, hr, hm⟩ := run_findKey_int (P := P) hK k h2 w
  unfold Instr.lookup
  simp only [Sem.run_bind, run_underlying hT, Result.andThen_ok, run_getMap h1, Sem.run_pure, run_checkKey_int hK, hr]
  cases r with
  | none => simp only at hm; simp [hm, hz]
  | some q => obtain ⟨j, v⟩ := q; simp only at hm; simp [hm.2.2.1]

theorem run_setMap {w : World} {b : Nat} {es es' : Array MapEntry} {c c' : Nat} (h : w.heap[b]? = some (.map es c)) : (setObj b (.map es' c')).run P w = .ok () { w with heap := w.heap.setIfInBounds b (.map es' c') } := by
  simp [setObj, Sem.run, h]
theorem upd_setObj (w : World) (b : Nat) (o : Obj) : Upd (fun k => k = b) w { w with heap := w.heap.setIfInBounds b o } :=
  ⟨rfl, rfl, rfl, by simp, fun k _ hn => by simp only [Array.getElem?_setIfInBounds]; rw [if_neg (fun e => hn e.symm)]⟩
theorem heap_setObj {w : World} {b : Nat} {o x : Obj} (h : w.heap[b]? = some x) : ({ w with heap := w.heap.setIfInBounds b o } : World).heap[b]? = some o := by
  have := (Array.getElem?_eq_some_iff.1 h).1
  simp [this]

theorem mput_mid (k : Int) (v : Value) : ∀ (pre : List (Int × Value)) (u : Value) (post : List (Int × Value)), k ∉ pre.map (·.1) → mput (pre ++ (k, u) :: post) k v = pre ++ (k, v) :: post
  | [], u, post, _ => by simp [mput]
  | (a, x) :: pre, u, post, h => by
    simp only [List.map_cons, List.mem_cons, not_or] at h
    simp only [List.cons_append, mput, if_neg h.1, mput_mid k v pre u post h.2]
theorem mput_end (k : Int) (v : Value) : ∀ (m : List (Int × Value)), mget m k = none → mput m k v = m ++ [(k, v)]
  | [], _ => rfl
  | (a, x) :: m, h => by
    simp only [mget] at h
    by_cases hk : k = a
    · subst hk; simp at h
    · rw [if_neg hk] at h
      simp only [mput, if_neg hk, mput_end k v m h, List.cons_append]

theorem map_eraseIdx {α β : Type} (f : α → β) : ∀ (l : List α) (j : Nat), (l.eraseIdx j).map f = (l.map f).eraseIdx j
  | [], _ => by simp
  | a :: l, 0 => by simp
  | a :: l, j + 1 => by simp [map_eraseIdx f l j]
/-- 'm[k] = v'. -/
theorem imap_update {T K E : TypeId} (hT : P.underlying T = some (.map K E)) (hK : P.underlying K = some (.int .i64)) (w : World) {b : Nat} {m : List (Int × Value)} (h : IMap w b m) (k : Int) (v : Value) :
    ∃ w', (Instr.mapUpdate T (.map (some b)) (.int .i64 k) v).run P w = .ok () w' ∧ IMap w' b (mput m k v) ∧ Upd (fun x => x = b) w w' ∧ w'.heap.size = w.heap.size := by
  obtain ⟨es, clock, h1, h2, h3⟩ := h
  obtain ⟨r, hr, hm⟩ := run_findKey_int (P := P) hK k h2 w
  cases r with
  | none =>
    simp only at hm
    refine ⟨{ w with heap := w.heap.setIfInBounds b (.map (es.push { key := .int .i64 k, val := v, born := clock }) (clock + 1)) }, ?_, ⟨_, _, heap_setObj h1, ?_, ?_⟩, upd_setObj _ _ _, by simp⟩
    · unfold Instr.mapUpdate
      simp only [Sem.run_bind, run_underlying hT, Result.andThen_ok, run_getMap h1, Sem.run_pure, run_checkKey_int hK, hr, run_setMap h1]
    · rw [mput_end k v m hm]; simp [h2]
    · exact mput_nodup m k v h3
  | some q =>
    obtain ⟨j, u⟩ := q
    obtain ⟨_, hj, _, pre, u', post, hd, he, hf⟩ := hm
    have hj' : j = pre.length := by omega
    have hkey : ((es[j]?).map (·.key)).getD (.int .i64 k) = .int .i64 k := by
      have hl : es.toList.length = m.length := by have := congrArg List.length h2; simpa using this
      have h4 : (es.toList.map (fun e => (e.key, e.val)))[j]? = some (.int .i64 k, u') := by rw [h2, hd, hj']; simp
      simp only [List.getElem?_map, Array.getElem?_toList] at h4
      cases hx : es[j]? with
      | none => rfl
      | some e => rw [hx] at h4; simp at h4; simp [h4.1]
    refine ⟨{ w with heap := w.heap.setIfInBounds b (.map (es.modify j fun e => { e with key := .int .i64 k, val := v }) clock) }, ?_, ⟨_, _, heap_setObj h1, ?_, ?_⟩, upd_setObj _ _ _, by simp⟩
    · unfold Instr.mapUpdate
      simp only [Sem.run_bind, run_underlying hT, Result.andThen_ok, run_getMap h1, Sem.run_pure, run_checkKey_int hK, hr, hkey]
      have : (Instr.keyThatStays (.int .i64 k) (.int .i64 k)).run P w = .ok (.int .i64 k) w := by
        unfold Instr.keyThatStays
        simp [Instr.sameBits]
      rw [this]
      simp only [Result.andThen_ok, run_setMap h1]
    · rw [hd, mput_mid k v pre u' post hf]
      rw [hd] at h2
      apply List.ext_getElem?
      intro i
      have h5 := congrArg (fun l => l[i]?) h2
      simp only [List.getElem?_map, Array.getElem?_toList, Array.toList_modify, List.getElem?_modify] at h5 ⊢
      by_cases hi : j = i
      · subst hi
        rw [hj'] at h5 ⊢
        simp at h5
        cases hx : es[pre.length]? with
        | none => simp [hx] at h5
        | some e => simp
      · have h7 : Option.map (fun e : MapEntry => (e.key, e.val)) ((fun a => if j = i then { key := Value.int IntKind.i64 k, val := v, born := a.born } else a) <$> es[i]?) = Option.map (fun e => (e.key, e.val)) es[i]? := by
          cases es[i]? <;> simp [hi]
        rw [h7, h5]
        by_cases h6 : i < pre.length
        · simp [List.getElem?_append_left h6]
        · rw [List.getElem?_append_right (by omega), List.getElem?_append_right (by omega)]
          have : i - pre.length = (i - pre.length - 1) + 1 := by omega
          rw [this]; simp
    · exact mput_nodup m k v h3

/-- 'delete(m, k)'. -/
theorem imap_delete {T K E : TypeId} (hT : P.underlying T = some (.map K E)) (hK : P.underlying K = some (.int .i64)) (ty : TypeId) (w : World) {b : Nat} {m : List (Int × Value)} (h : IMap w b m) (k : Int) :
    ∃ w', (Builtin.delete_ #[T, K] ty #[.map (some b), .int .i64 k]).run P w = .ok (.tuple #[]) w' ∧ IMap w' b (mdel m k) ∧ Upd (fun x => x = b) w w' ∧ w'.heap.size = w.heap.size := by
  obtain ⟨es, clock, h1, h2, h3⟩ := h
  obtain ⟨r, hr, hm⟩ := run_findKey_int (P := P) hK k h2 w
  cases r with
  | none =>
    simp only at hm
    refine ⟨{ w with heap := w.heap.setIfInBounds b (.map es clock) }, ?_, ⟨_, _, heap_setObj h1, ?_, mdel_nodup m k h3⟩, upd_setObj _ _ _, by simp⟩
    · unfold Builtin.delete_
      simp [run_underlying hT, run_getMap h1, run_checkKey_int hK, hr, run_setMap h1]
    · have : mdel m k = m := by
        unfold mdel
        rw [List.filter_eq_self]
        intro p hp
        simp only [ne_eq, decide_eq_true_eq]
        intro e
        have := (mget_mem m k).2 (by rw [← e]; exact List.mem_map_of_mem hp)
        rw [hm] at this; cases this
      rw [this]; exact h2
  | some q =>
    obtain ⟨j, u⟩ := q
    obtain ⟨_, hj, _, pre, u', post, hd, he, hf⟩ := hm
    have hj' : j = pre.length := by omega
    refine ⟨{ w with heap := w.heap.setIfInBounds b (.map (es.eraseIdxIfInBounds j) clock) }, ?_, ⟨_, _, heap_setObj h1, ?_, mdel_nodup m k h3⟩, upd_setObj _ _ _, by simp⟩
    · unfold Builtin.delete_
      simp [run_underlying hT, run_getMap h1, run_checkKey_int hK, hr, run_setMap h1]
    · have hmd : mdel m k = pre ++ post := by
        subst hd
        simp only [List.map_append, List.map_cons, List.nodup_append, List.nodup_cons] at h3
        unfold mdel
        simp only [List.filter_append, List.filter_cons, ne_eq, not_true_eq_false, decide_false, Bool.false_eq_true, if_false]
        have h4 : pre.filter (fun p => decide (¬p.1 = k)) = pre := by
          rw [List.filter_eq_self]; intro p hp
          simp only [decide_eq_true_eq]; intro e
          exact hf (by rw [← e]; exact List.mem_map_of_mem hp)
        have h5 : post.filter (fun p => decide (¬p.1 = k)) = post := by
          rw [List.filter_eq_self]; intro p hp
          simp only [decide_eq_true_eq]; intro e
          exact h3.2.1.1 (by rw [← e]; exact List.mem_map_of_mem hp)
        rw [h4, h5]
      rw [hmd]
      rw [hd] at h2
      have h6 : (es.eraseIdxIfInBounds j).toList = es.toList.eraseIdx j := by
        unfold Array.eraseIdxIfInBounds
        split
        · simp
        · rename_i hge
          rw [List.eraseIdx_of_length_le (by simp; omega)]
      rw [h6, map_eraseIdx, h2, ← map_eraseIdx, hj']
      congr 1
      rw [List.eraseIdx_append_of_length_le (Nat.le_refl _)]
      simp
end
end Go.Ten
