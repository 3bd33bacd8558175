/- package epoch: the epochs in memory; of, Now, Pin, Unpin, PinOf, Advance, Limbo. -/
import Derived.Test.YtpobpijjpbggoaaArena
set_option linter.unusedSimpArgs false
set_option linter.unusedVariables false
namespace Go.Proofs.Ytpobpijjpbggoaa
open Go.RowKit Go.Ten

structure EW where
  gs : Nat
  cap : Nat
  vs : List Value
  rest : List Value
def clC (x : MemF.Client × Value) : List Value := [.int .i64 x.1.pin, x.2]
theorem clC_len (x : MemF.Client × Value) : (clC x).length = 2 := rfl
def retC (x : Int × Int) : List Value := [.int .i64 x.1, .int .i64 x.2]
theorem retC_len (x : Int × Int) : (retC x).length = 2 := rfl
def EF (b : Nat) (X : EW) : Nat → Prop := fun k => k = b ∨ k = X.gs ∨ ∃ v ∈ X.vs, v.ownBlock = some k
structure EpX (w : World) (b : Nat) (E : MemF.Ep) (X : EW) : Prop where
  blk : Blk w b [.int .i64 E.now, .int .i64 E.room, .slice (some ⟨X.gs, 0, none⟩) E.clients.length X.cap] 124
  row : Blk w X.gs ((E.clients.zip X.vs).flatMap clC ++ X.rest) 127
  cap : E.clients.length ≤ X.cap
  few : E.clients.length ≤ 8
  vlen : X.vs.length = E.clients.length
  limbo : ∀ i, i < E.clients.length → ∃ p c, X.vs[i]! = .slice p (E.clients[i]!).limbo.length c ∧ w.ownsRow 0 148 2 (.slice p (E.clients[i]!).limbo.length c) (E.clients[i]!).limbo.length ((E.clients[i]!).limbo.flatMap retC)
  ne : b ≠ X.gs
  ne1 : ∀ v ∈ X.vs, v.ownBlock ≠ some b ∧ v.ownBlock ≠ some X.gs
  ne2 : ∀ i j k, i < X.vs.length → j < X.vs.length → (X.vs[i]!).ownBlock = some k → (X.vs[j]!).ownBlock = some k → i = j
theorem EpX.upd {S : Nat → Prop} {w w' : World} {b : Nat} {E : MemF.Ep} {X : EW} (h : EpX w b E X) (hu : Upd S w w') (hs : ∀ k, EF b X k → ¬ S k) : EpX w' b E X := by
  refine ⟨hu.blk (hs _ (.inl rfl)) h.blk, hu.blk (hs _ (.inr (.inl rfl))) h.row, h.cap, h.few, h.vlen, fun i hi => ?_, h.ne, h.ne1, h.ne2⟩
  obtain ⟨p, c, h1, h2⟩ := h.limbo i hi
  refine ⟨p, c, h1, hu.owns h2 fun k hk => hs k (.inr (.inr ⟨_, get!_mem X.vs i (by rw [h.vlen]; exact hi), by rw [h1]; exact hk⟩))⟩
theorem ownR_lt {w : World} {base : Nat} {e : TypeId} {size n : Nat} {v : Value} {xs : List Value} (h : w.ownsRow base e size v n xs) {k : Nat} (hk : v.ownBlock = some k) : k < w.heap.size := by
  obtain ⟨_, h7 | ⟨g, cap, cur, hv, _, hh, _⟩⟩ := h
  · rw [h7.1] at hk; simp [Value.ownBlock] at hk
  · rw [hv] at hk; simp [Value.ownBlock] at hk; subst hk
    exact (Array.getElem?_eq_some_iff.1 hh).1
theorem EpX.lt {w : World} {b : Nat} {E : MemF.Ep} {X : EW} (h : EpX w b E X) : ∀ k, EF b X k → k < w.heap.size := by
  rintro k (rfl | rfl | ⟨v, hv, hk⟩)
  · exact h.blk.lt
  · exact h.row.lt
  · obtain ⟨i, hi, rfl⟩ := List.getElem_of_mem hv
    obtain ⟨p, c, h1, h2⟩ := h.limbo i (by rw [← h.vlen]; exact hi)
    rw [getElem!_pos X.vs i hi] at h1
    rw [h1] at hk
    exact ownR_lt h2 hk
theorem EpX.cell {w : World} {b : Nat} {E : MemF.Ep} {X : EW} (h : EpX w b E X) (i j : Nat) (hi : i < E.clients.length) (hj : j < 2) : w.cell? ⟨X.gs, i * 2 + j, none⟩ = (clC (E.clients[i]!, X.vs[i]!))[j]? := by
  have hz : i < (E.clients.zip X.vs).length := by rw [List.length_zip, h.vlen]; omega
  rw [h.row.flat clC_len i j hz hj]
  have hv : i < X.vs.length := by rw [h.vlen]; exact hi
  rw [List.getElem_zip, getElem!_pos E.clients i hi, getElem!_pos X.vs i hv]
/-- A client's cell is written; its limbo's row may have changed or is new. -/
theorem EpX.setG {w w' : World} {b : Nat} {E : MemF.Ep} {X : EW} (h : EpX w b E X) (i j : Nat) (hi : i < E.clients.length) (hj : j < 2) (s : MemF.Client) (p : Option Addr) (c : Nat) (v : Value) (hs : clC (s, .slice p s.limbo.length c) = (clC (E.clients[i]!, X.vs[i]!)).set j v)
    (hup : Upd (fun k => k = X.gs ∨ (X.vs[i]!).ownBlock = some k) w w') (hrow : ∀ xs, Blk w X.gs xs 127 → Blk w' X.gs (xs.set (i * 2 + j) v) 127)
    (ho : w'.ownsRow 0 148 2 (.slice p s.limbo.length c) s.limbo.length (s.limbo.flatMap retC)) (hk : ∀ k, (Value.slice p s.limbo.length c).ownBlock = some k → (X.vs[i]!).ownBlock = some k ∨ w.heap.size ≤ k) :
    EpX w' b (E.setC i s) { X with vs := X.vs.set i (.slice p s.limbo.length c) } := by
  have hz : i < (E.clients.zip X.vs).length := by rw [List.length_zip, h.vlen]; omega
  have hv : i < X.vs.length := by rw [h.vlen]; exact hi
  have hvm := get!_mem X.vs i hv
  have hlt := h.lt
  refine ⟨?_, ?_, ?_, ?_, ?_, ?_, h.ne, ?_, ?_⟩
  · have := hup.blk (b := b) (fun e => by
      rcases e with e | e
      · exact h.ne e
      · exact (h.ne1 _ hvm).1 e) h.blk
    simpa [MemF.Ep.setC] using this
  · have h1 := hrow _ h.row
    have hlen := flat_len clC 2 clC_len (E.clients.zip X.vs)
    rw [List.set_append_left _ _ (by omega), flat_set clC 2 clC_len _ i j v (s, .slice p s.limbo.length c) hz hj (by rw [List.getElem_zip, hs, getElem!_pos E.clients i hi, getElem!_pos X.vs i hv])] at h1
    rw [← zip_set1] at h1
    simpa [MemF.Ep.setC] using h1
  · simpa [MemF.Ep.setC] using h.cap
  · simpa [MemF.Ep.setC] using h.few
  · simp [MemF.Ep.setC, h.vlen]
  · intro k hk2
    have hk2 : k < E.clients.length := by simpa [MemF.Ep.setC] using hk2
    simp only [MemF.Ep.setC, Int.toNat_natCast]
    rw [get_set! _ _ _ _ hi, get_set! _ _ _ _ hv]
    split
    · exact ⟨p, c, rfl, ho⟩
    · rename_i hne
      obtain ⟨p1, c1, h1, h2⟩ := h.limbo k hk2
      refine ⟨p1, c1, h1, hup.owns h2 fun k3 hk3 e => ?_⟩
      rcases e with e | e
      · exact (h.ne1 _ (get!_mem X.vs k (by rw [h.vlen]; exact hk2))).2 (by rw [h1, hk3, e])
      · exact hne (h.ne2 k i k3 (by rw [h.vlen]; exact hk2) hv (by rw [h1]; exact hk3) e)
  · intro y hy
    rcases List.mem_or_eq_of_mem_set hy with hy | rfl
    · exact h.ne1 y hy
    · refine ⟨fun e => ?_, fun e => ?_⟩
      · rcases hk b e with e2 | e2
        · exact (h.ne1 _ hvm).1 e2
        · have := h.blk.lt; omega
      · rcases hk X.gs e with e2 | e2
        · exact (h.ne1 _ hvm).2 e2
        · have := h.row.lt; omega
  · intro i1 j1 k h1 h2 h3 h4
    simp only [List.length_set] at h1 h2
    simp only at h3 h4
    rw [get_set! _ _ _ _ hv] at h3 h4
    have key : ∀ m, m < X.vs.length → (X.vs[m]!).ownBlock = some k → (Value.slice p s.limbo.length c).ownBlock = some k → m = i := by
      intro m hm e1 e2
      rcases hk k e2 with e3 | e3
      · exact h.ne2 m i k hm hv e1 e3
      · have := hlt k (.inr (.inr ⟨_, get!_mem X.vs m hm, e1⟩)); omega
    split at h3 <;> split at h4
    · omega
    · have := key j1 h2 h4 h3; omega
    · have := key i1 h1 h3 h4; omega
    · exact h.ne2 i1 j1 k h1 h2 h3 h4
/-- What a step of the epochs leaves. -/
def EpStep (w : World) (b : Nat) (X : EW) (w' : World) (E' : MemF.Ep) : Prop := ∃ X', EpX w' b E' X' ∧ (∀ k, EF b X' k → EF b X k ∨ w.heap.size ≤ k) ∧ Upd (EF b X) w w'
theorem EpStep.same {w : World} {b : Nat} {E : MemF.Ep} {X : EW} (h : EpX w b E X) : EpStep w b X w E := ⟨X, h, fun _ h => .inl h, Upd.refl _ _⟩
theorem EF_set {b : Nat} {X : EW} {i : Nat} {u : Value} {n : Nat} (hv : i < X.vs.length) (hu : ∀ k, u.ownBlock = some k → (X.vs[i]!).ownBlock = some k ∨ n ≤ k) {k : Nat} (h : EF b { X with vs := X.vs.set i u } k) : EF b X k ∨ n ≤ k := by
  rcases h with h | h | ⟨v, hv2, hk⟩
  · exact .inl (.inl h)
  · exact .inl (.inr (.inl h))
  · rcases List.mem_or_eq_of_mem_set hv2 with hv2 | rfl
    · exact .inl (.inr (.inr ⟨v, hv2, hk⟩))
    · rcases hu k hk with e | e
      · exact .inl (.inr (.inr ⟨_, get!_mem X.vs i hv, e⟩))
      · exact .inr e
/-- A client's pin is written. -/
theorem EpX.setPin {w : World} {b : Nat} {E : MemF.Ep} {X : EW} (h : EpX w b E X) (i : Nat) (hi : i < E.clients.length) (s : MemF.Client) (hs : E.clients[i]! = s) (n : Int) : EpStep w b X (w.setCell ⟨X.gs, i * 2, none⟩ (.int .i64 n)) (E.setC i { s with pin := n }) := by
  have hv : i < X.vs.length := by rw [h.vlen]; exact hi
  obtain ⟨p, c, h1, h2⟩ := h.limbo i hi
  rw [hs] at h1 h2
  have hup : Upd (fun k => k = X.gs) w (w.setCell ⟨X.gs, i * 2, none⟩ (.int .i64 n)) := (Upd.refl (fun k => k = X.gs) w).setCell (p := ⟨X.gs, i * 2, none⟩) (.inl rfl) _
  have h3 := h.setG i 0 hi (by omega) { s with pin := n } p c (.int .i64 n) (by rw [hs, h1]; rfl) (hup.mono fun k _ e => .inl e) (fun xs hx => hx.setCell _ _)
    (hup.owns h2 fun k hk e => (h.ne1 _ (get!_mem X.vs i hv)).2 (by rw [h1]; show (Value.slice p s.limbo.length c).ownBlock = some X.gs; rw [hk, e])) (fun k hk => .inl (by rw [h1]; exact hk))
  exact ⟨_, h3, fun k hk => EF_set hv (fun k2 hk2 => .inl (by rw [h1]; exact hk2)) hk, hup.mono fun k _ e => .inr (.inl e)⟩

set_option maxRecDepth 100000 in
set_option maxHeartbeats 400000 in
theorem ep_now_calls (b : Nat) (E : MemF.Ep) (X : EW) (w : World) (h : EpX w b E X) : Calls Try.prog 40 #[.pointer (some ⟨b, 0, none⟩)] w fun e w' => e = .returned (.int .i64 E.now) ∧ w = w' := by
  have hc := h.blk.cell
  go_enter Try.func40, Try.ntmps40
  go_wp2
  go_ret
  exact ⟨rfl, rfl⟩

/-- A client's pointer. -/
def ofP (E : MemF.Ep) (X : EW) (c : Int) : Option Addr := if c < 0 ∨ E.clients.length ≤ c.toNat then none else some ⟨X.gs, c.toNat * 2, none⟩
set_option maxRecDepth 100000 in
set_option maxHeartbeats 400000 in
theorem ep_of_calls (b : Nat) (E : MemF.Ep) (X : EW) (c : Int) (w : World) (h : EpX w b E X) : Calls Try.prog 77 #[.pointer (some ⟨b, 0, none⟩), .int .i64 c] w fun e w' => e = .returned (.pointer (ofP E X c)) ∧ w = w' := by
  have hc := h.blk.cell
  have hfew := h.few
  unfold ofP
  generalize E.clients.length = N at *
  clear h
  by_cases h0 : c < 0
  · rw [if_pos (.inl h0)]
    go_enter Try.func77, Try.ntmps77
    go_wp2
    go_ret
    exact ⟨rfl, rfl⟩
  · obtain ⟨n, rfl⟩ := Int.eq_ofNat_of_zero_le (show 0 ≤ c by omega)
    rw [Int.toNat_natCast]
    by_cases h1 : N ≤ n
    · rw [if_pos (.inr h1)]
      clear h0
      go_enter Try.func77, Try.ntmps77
      go_wp2
      go_ret
      exact ⟨rfl, rfl⟩
    · rw [if_neg (by omega)]
      have h2 : n < N := by omega
      have h3 : (n : Int) < (N : Int) := by omega
      clear h0 h1
      go_enter Try.func77, Try.ntmps77
      go_wp2
      go_ret
      exact ⟨rfl, rfl⟩

set_option maxRecDepth 100000 in
set_option maxHeartbeats 400000 in
theorem ep_advance_calls (b : Nat) (E : MemF.Ep) (X : EW) (n : Int) (w : World) (h : EpX w b E X) (hE : 0 ≤ E.now ∧ E.now ≤ 1073741824) :
    Calls Try.prog 44 #[.pointer (some ⟨b, 0, none⟩), .int .i64 n] w fun e w' => e = .returned (.bool (E.advance n).2) ∧ EpStep w b X w' (E.advance n).1 := by
  obtain ⟨hE0, hE1⟩ := hE
  have hc := h.blk.cell
  have hf := h.blk.frozen
  have hX := Lib.hid h
  have hA : E.advance n = if E.now ≠ n ∨ 1073741824 ≤ E.now then (E, false) else ({ E with now := E.now + 1 }, true) := rfl
  by_cases h0 : E.now = n
  · by_cases h1 : 1073741824 ≤ E.now
    · rw [if_pos (.inr h1)] at hA
      rw [hA]
      clear hA
      have h0' : (E.now != n) = false := by simpa using h0
      clear h h0
      generalize E.now = m at *
      go_enter Try.func44, Try.ntmps44
      go_wp2
      go_ret
      exact ⟨rfl, EpStep.same hX.out⟩
    · rw [if_neg (by omega)] at hA
      rw [hA]
      clear hA
      have h0' : (E.now != n) = false := by simpa using h0
      obtain ⟨m, hm⟩ : ∃ m, E.now = m := ⟨_, rfl⟩
      have hm' := Lib.hid hm
      rw [hm] at h0' hc hE0 hE1 h1
      clear h h0 hm
      have h1' : m < 1073741824 := by omega
      go_enter Try.func44, Try.ntmps44
      go_wp2
      go_ret
      have hX := hX.out
      have hm := hm'.out
      have hup : Upd (fun k => k = b) w (w.setCell ⟨b, 0, none⟩ (.int .i64 (m + 1))) := (Upd.refl (fun k => k = b) w).setCell (p := ⟨b, 0, none⟩) (.inl rfl) _
      refine ⟨rfl, X, ⟨?_, hup.blk (fun e => hX.ne e.symm) hX.row, hX.cap, hX.few, hX.vlen, fun i hi => ?_, hX.ne, hX.ne1, hX.ne2⟩, fun k hk => .inl hk, hup.mono fun k _ e => .inl e⟩
      · have := hX.blk.setCell 0 (.int .i64 (m + 1))
        simp only [hm]
        simpa using this
      · obtain ⟨p, c, h1, h2⟩ := hX.limbo i hi
        exact ⟨p, c, h1, hup.owns h2 fun k hk e => (hX.ne1 _ (get!_mem X.vs i (by rw [hX.vlen]; exact hi))).1 (by rw [h1, hk, e])⟩
  · rw [if_pos (.inl h0)] at hA
    rw [hA]
    clear hA
    have h0' : (E.now != n) = true := by simpa using h0
    clear h h0
    generalize E.now = m at *
    go_enter Try.func44, Try.ntmps44
    go_wp2
    go_ret
    exact ⟨rfl, EpStep.same hX.out⟩
end Go.Proofs.Ytpobpijjpbggoaa
