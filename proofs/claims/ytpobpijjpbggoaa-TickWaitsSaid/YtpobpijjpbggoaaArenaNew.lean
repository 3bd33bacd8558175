/- package arena: New. -/
import Derived.Test.YtpobpijjpbggoaaArena5
set_option linter.unusedSimpArgs false
set_option linter.unusedVariables false
namespace Go.MemF
def Ar.start : Ar := { slots := [], free := [[], [], [], [], []] }
def fresh (c : Nat) : Slot := { cls := c, gen := 1, live := false, words := poison c }
def Ar.addSlot (A : Ar) (c : Nat) : Ar := { slots := A.slots ++ [fresh c], free := A.free.set c (ins A.slots.length A.free[c]!) }
def Ar.addN (c : Nat) : Nat → Ar → Ar
  | 0, A => A
  | k + 1, A => (Ar.addN c k A).addSlot c
def Ar.upto (ns : Nat → Nat) : Nat → Ar
  | 0 => Ar.start
  | m + 1 => Ar.addN m (ns m) (Ar.upto ns m)
def sumN (ns : Nat → Nat) : Nat → Nat
  | 0 => 0
  | m + 1 => sumN ns m + ns m
theorem addN_len (c : Nat) : ∀ (k : Nat) (A : Ar), (Ar.addN c k A).slots.length = A.slots.length + k
  | 0, A => rfl
  | k + 1, A => by simp only [Ar.addN, Ar.addSlot, List.length_append, List.length_singleton, addN_len c k A]; omega
theorem upto_len (ns : Nat → Nat) : ∀ m, (Ar.upto ns m).slots.length = sumN ns m
  | 0 => rfl
  | m + 1 => by simp only [Ar.upto, sumN, addN_len, upto_len ns m]
/-- While it is made. -/
structure ArMk (A : Ar) (m : Nat) : Prop where
  five : A.free.length = 5
  slot : ∀ s ∈ A.slots, ∃ c, c < 5 ∧ s = fresh c
  free : ∀ c, c < 5 → ∀ n ∈ A.free[c]!, 0 ≤ n ∧ n < A.slots.length ∧ A.slots[n.toNat]! = fresh c
  rises : ∀ c, c < 5 → (A.free[c]!).Pairwise (· < ·)
  none : ∀ c, m < c → c < 5 → A.free[c]! = []
theorem get_app! (l : List Slot) (x : Slot) (i : Nat) (h : i < l.length) : (l ++ [x])[i]! = l[i]! := by
  simp only [List.getElem!_eq_getElem?_getD]
  rw [List.getElem?_append_left h]
theorem get_app_last! (l : List Slot) (x : Slot) : (l ++ [x])[l.length]! = x := by
  simp [List.getElem!_eq_getElem?_getD]
theorem ArMk.add {A : Ar} {m : Nat} (h : ArMk A m) (hm : m < 5) : ArMk (A.addSlot m) m := by
  have hni : (A.slots.length : Int) ∉ A.free[m]! := fun hh => by have := (h.free m hm _ hh).2.1; omega
  refine ⟨by simp [Ar.addSlot, h.five], ?_, ?_, ?_, ?_⟩
  · intro s hs
    rcases List.mem_append.1 hs with hs | hs
    · exact h.slot s hs
    · exact ⟨m, hm, by simpa using hs⟩
  · intro c hc n hn
    simp only [Ar.addSlot] at hn ⊢
    rw [Go.Ten.get_set! _ _ _ _ (by rw [h.five]; exact hm)] at hn
    have hold : ∀ n ∈ A.free[c]!, 0 ≤ n ∧ n < ((A.slots ++ [fresh m]).length : Nat) ∧ (A.slots ++ [fresh m])[n.toNat]! = fresh c := by
      intro n hn
      have := h.free c hc n hn
      refine ⟨this.1, by simp; omega, ?_⟩
      rw [get_app! _ _ _ (by omega)]
      exact this.2.2
    split at hn
    · rename_i e; subst e
      rcases List.mem_cons.1 ((ins_perm _ _).mem_iff.1 hn) with rfl | hn
      · refine ⟨by omega, by simp; omega, ?_⟩
        rw [Int.toNat_natCast]
        exact get_app_last! _ _
      · exact hold n hn
    · exact hold n hn
  · intro c hc
    simp only [Ar.addSlot]
    rw [Go.Ten.get_set! _ _ _ _ (by rw [h.five]; exact hm)]
    split
    · exact ins_sorted _ _ (h.rises m hm) hni
    · exact h.rises c hc
  · intro c hmc hc
    simp only [Ar.addSlot]
    rw [Go.Ten.get_set! _ _ _ _ (by rw [h.five]; exact hm), if_neg (by omega)]
    exact h.none c hmc hc
theorem ArMk.addN {A : Ar} {m : Nat} (h : ArMk A m) (hm : m < 5) : ∀ k, ArMk (Ar.addN m k A) m
  | 0 => h
  | k + 1 => (ArMk.addN h hm k).add hm
theorem ArMk.up {A : Ar} {m : Nat} (h : ArMk A m) : ArMk A (m + 1) := ⟨h.five, h.slot, h.free, h.rises, fun c hc => h.none c (by omega)⟩
theorem ArMk.start : ArMk Ar.start 0 := by
  refine ⟨rfl, fun s hs => by simp [Ar.start] at hs, ?_, ?_, ?_⟩ <;> intro c <;> (try intro hc) <;> match c with
    | 0 | 1 | 2 | 3 | 4 => simp [Ar.start]
    | c + 5 => omega
theorem ArMk.upto (ns : Nat → Nat) : ∀ m, m ≤ 5 → ArMk (Ar.upto ns m) m
  | 0, _ => ArMk.start
  | m + 1, h => (ArMk.addN (ArMk.upto ns m (by omega)) (by omega) (ns m)).up
theorem ArMk.ok {A : Ar} {m : Nat} (h : ArMk A m) (h0 : 0 < A.slots.length) (h1 : A.slots.length ≤ 1024) : ArOk A := by
  refine ⟨h.five, h0, h1, ?_, ?_, ?_, ?_, ?_, h.rises⟩
  · intro s hs; obtain ⟨c, hc, rfl⟩ := h.slot s hs; simp [fresh]; omega
  · intro s hs; obtain ⟨c, hc, rfl⟩ := h.slot s hs; simp [fresh]
  · intro s hs; obtain ⟨c, hc, rfl⟩ := h.slot s hs; simp [fresh, poison]
  · intro s hs x hx
    obtain ⟨c, hc, rfl⟩ := h.slot s hs
    simp only [fresh, poison, List.mem_replicate] at hx
    rw [hx.2]; unfold poisonWord; omega
  · intro c hc n hn
    have := h.free c hc n hn
    refine ⟨this.1, this.2.1, ?_, ?_, ?_⟩ <;> rw [this.2.2] <;> simp [fresh]
end Go.MemF
namespace Go.Proofs.Ytpobpijjpbggoaa
open Go.RowKit Go.Ten

def ptrC (bs : Nat → Nat) (m c : Nat) : Value := .pointer (if c < m then some ⟨bs c, 0, none⟩ else none)
/-- An arena while it is made. -/
structure ArenaB (w0 w : World) (B a m : Nat) (A : MemF.Ar) (p : Option Addr) (cap : Nat) (vs : List Value) (bs : Nat → Nat) (Fs : Nat → List Nat) : Prop where
  blk : Blk w a [.slice p A.slots.length cap, ptrC bs m 0, ptrC bs m 1, ptrC bs m 2, ptrC bs m 3, ptrC bs m 4] 116
  own : w.ownsRow B 121 4 (.slice p A.slots.length cap) A.slots.length ((A.slots.zip vs).flatMap slotC)
  vlen : vs.length = A.slots.length
  words : ∀ i, i < A.slots.length → CellsR w vs[i]! (A.slots[i]!).words.length (u64s (A.slots[i]!).words) ∧ 0 < (A.slots[i]!).words.length
  off : ∀ v ∈ vs, ∀ k, v.ownBlock = some k → k ≠ a ∧ (Value.slice p A.slots.length cap).ownBlock ≠ some k ∧ (∀ c, c < m → k ∉ Fs c) ∧ k < w.heap.size ∧ B ≤ k
  pools : ∀ c, c < m → PoolAt w (bs c) 1024 A.free[c]! (Fs c) ∧ ∀ k ∈ Fs c, B ≤ k
  ne : (Value.slice p A.slots.length cap).ownBlock ≠ some a
  ne1 : ∀ c, c < m → a ∉ Fs c ∧ ∀ k ∈ Fs c, (Value.slice p A.slots.length cap).ownBlock ≠ some k
  ne2 : ∀ c d k, c < m → d < m → k ∈ Fs c → k ∈ Fs d → c = d
  aB : B ≤ a
  below : Below B w0 w
theorem own_lt {w : World} {base : Nat} {e : TypeId} {size n : Nat} {v : Value} {xs : List Value} (h : w.ownsRow base e size v n xs) {k : Nat} (hk : v.ownBlock = some k) : k < w.heap.size := by
  obtain ⟨_, h7 | ⟨g, cap, cur, hv, _, hh, _⟩⟩ := h
  · rw [h7.1] at hk; simp [Value.ownBlock] at hk
  · rw [hv] at hk; simp [Value.ownBlock] at hk; subst hk
    exact (Array.getElem?_eq_some_iff.1 hh).1
theorem ArenaB.grew {w0 w w' : World} {B a m : Nat} {A : MemF.Ar} {p : Option Addr} {cap : Nat} {vs : List Value} {bs : Nat → Nat} {Fs : Nat → List Nat} (h : ArenaB w0 w B a m A p cap vs bs Fs) (hB : Below w.heap.size w w') : ArenaB w0 w' B a m A p cap vs bs Fs := by
  have hu : Upd (fun _ => False) w w' := Upd.of_below' hB
  refine ⟨hu.blk (fun h => h) h.blk, hu.owns h.own (fun _ _ h => h), h.vlen, fun i hi => ⟨(h.words i hi).1.grew hB, (h.words i hi).2⟩, fun v hv k hk => ?_, fun c hc => ⟨(h.pools c hc).1.upd hu (fun _ _ h => h), (h.pools c hc).2⟩, h.ne, h.ne1, h.ne2, h.aB, ?_⟩
  · obtain ⟨h1, h2, h3, h4, h5⟩ := h.off v hv k hk
    exact ⟨h1, h2, h3, Nat.lt_of_lt_of_le h4 hB.size, h5⟩
  · exact h.below.trans (hB.mono (by have := h.blk.lt; have := h.aB; omega))
/-- A pool more. -/
theorem ArenaB.pool {w0 w w1 : World} {B a m : Nat} {A : MemF.Ar} {p : Option Addr} {cap : Nat} {vs : List Value} {bs : Nat → Nat} {Fs : Nat → List Nat} (h : ArenaB w0 w B a m A p cap vs bs Fs) (hm : m < 5) (hB : Below w.heap.size w w1) (b : Nat) (F : List Nat) (hP : PoolAt w1 b 1024 [] F) (hF : ∀ k ∈ F, w.heap.size ≤ k) (hf : A.free[m]! = []) :
    ArenaB w0 (w1.setCell ⟨a, 1 + m, none⟩ (.pointer (some ⟨b, 0, none⟩))) B a (m + 1) A p cap vs (fun c => if c = m then b else bs c) (fun c => if c = m then F else Fs c) := by
  have h1 := h.grew hB
  have hal := h.blk.lt
  have hu : Upd (fun k => k = a) w1 (w1.setCell ⟨a, 1 + m, none⟩ (.pointer (some ⟨b, 0, none⟩))) := (Upd.refl (fun k => k = a) w1).setCell (p := ⟨a, 1 + m, none⟩) (.inl rfl) _
  have hol : ∀ k, (Value.slice p A.slots.length cap).ownBlock = some k → k < w.heap.size := fun k hk => own_lt h.own hk
  refine ⟨?_, hu.owns h1.own (fun k hk e => h.ne (by rw [← e]; exact hk)), h.vlen, fun i hi => ⟨(h1.words i hi).1.upd hu (fun k _ hk e => (h.off _ (get!_mem _ _ (by rw [h.vlen]; exact hi)) k hk).1 e), (h1.words i hi).2⟩, ?_, ?_, h.ne, ?_, ?_, h.aB, ?_⟩
  · have h2 := h1.blk.setCell (1 + m) (.pointer (some ⟨b, 0, none⟩))
    have e : ∀ xs ys : List Value, Blk (w1.setCell ⟨a, 1 + m, none⟩ (.pointer (some ⟨b, 0, none⟩))) a xs 116 → xs = ys → Blk (w1.setCell ⟨a, 1 + m, none⟩ (.pointer (some ⟨b, 0, none⟩))) a ys 116 := fun xs ys h e => e ▸ h
    refine e _ _ h2 ?_
    match m, hm with
    | 0, _ | 1, _ | 2, _ | 3, _ | 4, _ => simp [ptrC]
  · intro v hv k hk
    obtain ⟨h2, h3, h4, h5, h6⟩ := h.off v hv k hk
    refine ⟨h2, h3, fun c hc => ?_, ?_, h6⟩
    · (try simp only)
      split
      · exact fun hkF => by have := hF k hkF; omega
      · exact h4 c (by omega)
    · have := hu.size; have := hB.size; omega
  · intro c hc
    (try simp only)
    split
    · rename_i e; subst e
      rw [hf]
      exact ⟨hP.upd hu (fun k hk e => by have := hF k hk; omega), fun k hk => by have := hF k hk; have := h.aB; omega⟩
    · exact ⟨(h1.pools c (by omega)).1.upd hu (fun k hk e => (h.ne1 c (by omega)).1 (by rw [← e]; exact hk)), (h.pools c (by omega)).2⟩
  · intro c hc
    (try simp only)
    split
    · exact ⟨fun hk => by have := hF a hk; omega, fun k hk e => by have := hF k hk; have := hol k e; omega⟩
    · exact h.ne1 c (by omega)
  · intro c d k hc hd hkc hkd
    (try simp only at hkc hkd)
    have hlt : ∀ c, c < m → k ∈ Fs c → k < w.heap.size := fun c hc hk => (h.pools c hc).1.lt k hk
    split at hkc <;> split at hkd
    · omega
    · have := hF k hkc; have := hlt d (by omega) hkd; omega
    · have := hF k hkd; have := hlt c (by omega) hkc; omega
    · exact h.ne2 c d k (by omega) (by omega) hkc hkd
  · exact h1.below.trans (hu.below (by have := h.aB; have := hB.size; omega) (fun k hk e => by have := h.aB; omega))

/-- A number is put. -/
theorem ArenaB.put {w0 w w1 : World} {B a m : Nat} {A : MemF.Ar} {p : Option Addr} {cap : Nat} {vs : List Value} {bs : Nat → Nat} {Fs : Nat → List Nat} (h : ArenaB w0 w B a m A p cap vs bs Fs) (c : Nat) (hc : c < m) (h5 : A.free.length = 5) (hm : m ≤ 5) (S : List Int) (F' : List Nat) (hu : Upd (fun k => k ∈ Fs c) w w1) (hP : PoolAt w1 (bs c) 1024 S F')
    (hF : ∀ k ∈ F', k ∈ Fs c ∨ w.heap.size ≤ k) : ArenaB w0 w1 B a m { A with free := A.free.set c S } p cap vs bs (fun d => if d = c then F' else Fs d) := by
  have hal := h.blk.lt
  have hol : ∀ k, (Value.slice p A.slots.length cap).ownBlock = some k → k < w.heap.size := fun k hk => own_lt h.own hk
  have hBF : ∀ k ∈ F', B ≤ k := fun k hk => by
    rcases hF k hk with hk | hk
    · exact (h.pools c hc).2 k hk
    · have := h.aB; omega
  refine ⟨hu.blk (h.ne1 c hc).1 h.blk, hu.owns h.own (fun k hk e => (h.ne1 c hc).2 k e hk), h.vlen, fun i hi => ⟨(h.words i hi).1.upd hu (fun k _ hk e => (h.off _ (get!_mem _ _ (by rw [h.vlen]; exact hi)) k hk).2.2.1 c hc e), (h.words i hi).2⟩, ?_, ?_, h.ne, ?_, ?_, h.aB, ?_⟩
  · intro v hv k hk
    obtain ⟨h2, h3, h4, h5, h6⟩ := h.off v hv k hk
    refine ⟨h2, h3, fun d hd => ?_, by have := hu.size; omega, h6⟩
    (try simp only)
    split
    · intro hkF
      rcases hF k hkF with hk2 | hk2
      · exact h4 c hc hk2
      · omega
    · exact h4 d hd
  · intro d hd
    (try simp only)
    rw [get_set! _ _ _ _ (by omega)]
    split
    · rename_i e; subst e; exact ⟨hP, hBF⟩
    · rename_i e
      exact ⟨(h.pools d hd).1.upd hu (fun k hk hk2 => e (h.ne2 d c k hd hc hk hk2)), (h.pools d hd).2⟩
  · intro d hd
    (try simp only)
    split
    · refine ⟨fun hk => ?_, fun k hk e => ?_⟩
      · rcases hF a hk with hk2 | hk2
        · exact (h.ne1 c hc).1 hk2
        · omega
      · rcases hF k hk with hk2 | hk2
        · exact (h.ne1 c hc).2 k hk2 e
        · have := hol k e; omega
    · exact h.ne1 d hd
  · intro d e k hd he hkd hke
    have hlt : ∀ c, c < m → k ∈ Fs c → k < w.heap.size := fun c hc hk => (h.pools c hc).1.lt k hk
    (try simp only at hkd hke)
    split at hkd <;> split at hke
    · omega
    · rcases hF k hkd with hk2 | hk2
      · rename_i e1 e2; rw [e1]; exact h.ne2 c e k hc he hk2 hke
      · have := hlt e he hke; omega
    · rcases hF k hke with hk2 | hk2
      · rename_i e1 e2; rw [e2]; exact h.ne2 d c k hd hc hkd hk2
      · have := hlt d hd hkd; omega
    · exact h.ne2 d e k hd he hkd hke
  · exact h.below.trans (hu.below (by have := h.aB; omega) (fun k hk e => by have := (h.pools c hc).2 k e; omega))

/-- A slot more. -/
theorem ArenaB.app {w0 w w1 : World} {B a m : Nat} {A : MemF.Ar} {p : Option Addr} {cap : Nat} {vs : List Value} {bs : Nat → Nat} {Fs : Nat → List Nat} (h : ArenaB w0 w B a m A p cap vs bs Fs) (s : MemF.Slot) (v : Value) (g cap' : Nat)
    (ho : w1.ownsRow B 121 4 (.slice (some ⟨g, 0, none⟩) (A.slots.length + 1) cap') (A.slots.length + 1) ((A.slots.zip vs).flatMap slotC ++ slotC (s, v))) (hu : Upd (fun k => some k = (Value.slice p A.slots.length cap).ownBlock) w w1) (hg : p = some ⟨g, 0, none⟩ ∨ w.heap.size ≤ g)
    (hv : CellsR w v s.words.length (u64s s.words) ∧ 0 < s.words.length) (hvk : ∀ k, v.ownBlock = some k → k ≠ a ∧ (Value.slice p A.slots.length cap).ownBlock ≠ some k ∧ (∀ c, c < m → k ∉ Fs c) ∧ k < w.heap.size ∧ B ≤ k) :
    ArenaB w0 (w1.setCell ⟨a, 0, none⟩ (.slice (some ⟨g, 0, none⟩) (A.slots.length + 1) cap')) B a m { A with slots := A.slots ++ [s] } (some ⟨g, 0, none⟩) cap' (vs ++ [v]) bs Fs := by
  have hal := h.blk.lt
  have hol : ∀ k, (Value.slice p A.slots.length cap).ownBlock = some k → k < w.heap.size := fun k hk => own_lt h.own hk
  have hu2 : Upd (fun k => k = a) w1 (w1.setCell ⟨a, 0, none⟩ (.slice (some ⟨g, 0, none⟩) (A.slots.length + 1) cap')) := (Upd.refl (fun k => k = a) w1).setCell (p := ⟨a, 0, none⟩) (.inl rfl) _
  have hga : g ≠ a := by
    rcases hg with hg | hg
    · intro e; exact h.ne (by rw [hg, e]; rfl)
    · omega
  have hgk : ∀ k, (Value.slice p A.slots.length cap).ownBlock ≠ some k → k < w.heap.size → g ≠ k := by
    intro k hk hlt e
    rcases hg with hg | hg
    · exact hk (by rw [hg, e]; rfl)
    · omega
  have hall : ∀ y ∈ vs ++ [v], ∀ k, y.ownBlock = some k → k ≠ a ∧ (Value.slice p A.slots.length cap).ownBlock ≠ some k ∧ (∀ c, c < m → k ∉ Fs c) ∧ k < w.heap.size ∧ B ≤ k := by
    intro y hy k hk
    rcases List.mem_append.1 hy with hy | hy
    · exact h.off y hy k hk
    · have : y = v := by simpa using hy
      subst this
      exact hvk k hk
  refine ⟨?_, ?_, by simp [h.vlen], ?_, ?_, ?_, ?_, ?_, h.ne2, h.aB, ?_⟩
  · have h2 := (hu.blk (b := a) (fun e => h.ne e.symm) h.blk).setCell 0 (.slice (some ⟨g, 0, none⟩) (A.slots.length + 1) cap')
    simpa using h2
  · have h3 : ((A.slots ++ [s]).zip (vs ++ [v])).flatMap slotC = (A.slots.zip vs).flatMap slotC ++ slotC (s, v) := by
      rw [List.zip_append (by rw [h.vlen]), List.flatMap_append]
      simp
    have h4 := hu2.owns ho (fun k hk e => hga (by have : k = g := by simpa [Value.ownBlock] using hk.symm
                                                  omega))
    simp only [List.length_append, List.length_singleton]
    rw [h3]
    exact h4
  · intro i hi
    have key : ∀ (y : Value) (n : Nat) (cs : List Value), y ∈ vs ++ [v] → CellsR w y n cs → CellsR (w1.setCell ⟨a, 0, none⟩ (.slice (some ⟨g, 0, none⟩) (A.slots.length + 1) cap')) y n cs := fun y n cs hy hc =>
      (hc.upd hu (fun k _ hk e => (hall y hy k hk).2.1 e.symm)).upd hu2 (fun k _ hk e => (hall y hy k hk).1 e)
    by_cases hi2 : i < A.slots.length
    · have e1 : (A.slots ++ [s])[i]! = A.slots[i]! := MemF.get_app! _ _ _ hi2
      have e2 : (vs ++ [v])[i]! = vs[i]! := by
        simp only [List.getElem!_eq_getElem?_getD]
        rw [List.getElem?_append_left (by rw [h.vlen]; exact hi2)]
      simp only [e1, e2]
      exact ⟨key _ _ _ (by rw [← e2]; exact get!_mem _ _ (by simp [h.vlen]; omega)) (h.words i hi2).1, (h.words i hi2).2⟩
    · have e0 : i = A.slots.length := by simp at hi; omega
      subst e0
      have e1 : (A.slots ++ [s])[A.slots.length]! = s := MemF.get_app_last! _ _
      have e2 : (vs ++ [v])[A.slots.length]! = v := by
        rw [← h.vlen]
        simp [List.getElem!_eq_getElem?_getD]
      simp only [e1, e2]
      exact ⟨key _ _ _ (by simp) hv.1, hv.2⟩
  · intro y hy k hk
    obtain ⟨h2, h3, h4, h5, h6⟩ := hall y hy k hk
    refine ⟨h2, ?_, h4, by have := hu.size; have := hu2.size; omega, h6⟩
    intro e
    have : g = k := by simpa [Value.ownBlock] using e
    exact hgk k h3 h5 this
  · intro c hc
    exact ⟨((h.pools c hc).1.upd hu (fun k hk e => (h.ne1 c hc).2 k hk e.symm)).upd hu2 (fun k hk e => (h.ne1 c hc).1 (by rw [← e]; exact hk)), (h.pools c hc).2⟩
  · intro e
    exact hga (by simpa [Value.ownBlock] using e)
  · intro c hc
    refine ⟨(h.ne1 c hc).1, fun k hk e => ?_⟩
    have : g = k := by simpa [Value.ownBlock] using e
    exact hgk k ((h.ne1 c hc).2 k hk) ((h.pools c hc).1.lt k hk) this
  · refine (hu.below_own h.own (by have := h.aB; omega) h.below).trans (hu2.below (by have := h.aB; have := hu.size; omega) (fun k hk e => by have := h.aB; omega))
/-- It is made. -/
theorem ArenaB.done {w0 w : World} {B a : Nat} {A : MemF.Ar} {p : Option Addr} {cap : Nat} {vs : List Value} {bs : Nat → Nat} {Fs : Nat → List Nat} (h : ArenaB w0 w B a 5 A p cap vs bs Fs) (h0 : 0 < A.slots.length) : ∃ X, ArenaX w a A X ∧ ∀ k, AF a X k → B ≤ k := by
  obtain ⟨p', cap', hv, hp0, hp1⟩ := own_form h.own
  simp only [Value.slice.injEq] at hv
  obtain ⟨rfl, -, rfl⟩ := hv
  rcases p with _ | q
  · have := hp0 rfl; omega
  have hq := hp1 q rfl
  generalize q.block = g at hq
  subst hq
  obtain ⟨h1, h2 | ⟨g', cap', cur, hv, hg, hh, hn, _, hs, ht⟩⟩ := h.own
  · simp at h2
  simp only [Value.slice.injEq, Option.some.injEq, Addr.mk.injEq] at hv
  obtain ⟨⟨rfl, _⟩, _, rfl⟩ := hv
  have hob : ∀ k, (Value.slice (some ⟨g, 0, none⟩) A.slots.length cap).ownBlock = some k ↔ g = k := fun k => by simp [Value.ownBlock]
  have hne : a ≠ g := fun e => h.ne ((hob a).2 e.symm)
  refine ⟨⟨g, cap, vs, cur.toList.drop (A.slots.length * 4), bs, Fs⟩, ⟨?_, ?_, hn, h.vlen, h.words, ?_, fun c hc => (h.pools c hc).1, hne, ?_, h.ne2⟩, ?_⟩
  · have := h.blk
    simpa [ptrC] using this
  · unfold Blk
    rw [hh, ← ht, List.take_append_drop]
  · rintro v hv k hk (rfl | rfl | ⟨c, hc, hkc⟩)
    · exact (h.off v hv _ hk).1 rfl
    · exact (h.off v hv _ hk).2.1 ((hob _).2 rfl)
    · exact (h.off v hv k hk).2.2.1 c hc hkc
  · intro c hc
    exact ⟨(h.ne1 c hc).1, fun hk => (h.ne1 c hc).2 g hk ((hob g).2 rfl)⟩
  · rintro k ((rfl | rfl | ⟨c, hc, hk⟩) | ⟨v, hv, hk⟩)
    · exact h.aB
    · exact hg
    · exact (h.pools c hc).2 k hk
    · exact (h.off v hv k hk).2.2.2.2
end Go.Proofs.Ytpobpijjpbggoaa
