/- package mem: the memory in memory; turn, collect. -/
import Derived.Test.YtpobpijjpbggoaaEp4
import Derived.Test.YtpobpijjpbggoaaArenaNew2
set_option linter.unusedSimpArgs false
set_option linter.unusedVariables false
namespace Go.Proofs.Ytpobpijjpbggoaa
open Go.RowKit Go.Ten

structure MW where
  a : Nat
  e : Nat
  X : AW
  Y : EW
def MF (m : Nat) (W : MW) : Nat → Prop := fun k => k = m ∨ AF W.a W.X k ∨ EF W.e W.Y k
structure MemX (w : World) (m : Nat) (M : MemF.Mem) (W : MW) : Prop where
  blk : Blk w m [.pointer (some ⟨W.a, 0, none⟩), .pointer (some ⟨W.e, 0, none⟩), .int .i64 M.clients, .int .i64 M.root, .int .i64 M.holder] 84
  ar : ArenaX w W.a M.ar W.X
  ep : EpX w W.e M.ep W.Y
  ne1 : ¬ AF W.a W.X m
  ne2 : ¬ EF W.e W.Y m
  ne3 : ∀ k, AF W.a W.X k → ¬ EF W.e W.Y k
theorem AM_AF {a : Nat} {X : AW} {k : Nat} (h : AM a X k) : AF a X k := .inl h
theorem MemX.upd {S : Nat → Prop} {w w' : World} {m : Nat} {M : MemF.Mem} {W : MW} (h : MemX w m M W) (hu : Upd S w w') (hs : ∀ k, MF m W k → ¬ S k) : MemX w' m M W :=
  ⟨hu.blk (hs m (.inl rfl)) h.blk, h.ar.upd hu fun k hk => hs k (.inr (.inl hk)), h.ep.upd hu fun k hk => hs k (.inr (.inr hk)), h.ne1, h.ne2, h.ne3⟩
theorem MemX.lt {w : World} {m : Nat} {M : MemF.Mem} {W : MW} (h : MemX w m M W) : ∀ k, MF m W k → k < w.heap.size := by
  rintro k (rfl | hk | hk)
  · exact h.blk.lt
  · exact h.ar.lt k hk
  · exact h.ep.lt k hk
def MemStep (w : World) (m : Nat) (W : MW) (w' : World) (M' : MemF.Mem) : Prop := ∃ W', MemX w' m M' W' ∧ (∀ k, MF m W' k → MF m W k ∨ w.heap.size ≤ k) ∧ Upd (MF m W) w w'
theorem MemStep.same {w : World} {m : Nat} {M : MemF.Mem} {W : MW} (h : MemX w m M W) : MemStep w m W w M := ⟨W, h, fun _ h => .inl h, Upd.refl _ _⟩
/-- A step within other blocks' making and writing. -/
theorem MemStep.wrap {w w2 w3 w4 : World} {m : Nat} {M M' : MemF.Mem} {W : MW} (h : MemX w m M W) (h2 : Below w.heap.size w w2) (hs : MemStep w2 m W w3 M') (h4 : Upd (fun k => w.heap.size ≤ k ∧ k < w2.heap.size) w3 w4) : MemStep w m W w4 M' := by
  obtain ⟨W', hX, hF, hu⟩ := hs
  have hlt := h.lt
  have hsz := h2.size
  refine ⟨W', hX.upd h4 ?_, fun k hk => ?_, ?_⟩
  · rintro k hk ⟨h5, h6⟩
    rcases hF k hk with h7 | h7
    · have := hlt k h7; omega
    · omega
  · rcases hF k hk with h7 | h7
    · exact .inl h7
    · exact .inr (by omega)
  · exact (Upd.of_below' h2).trans ((hu.mono fun k _ h => .inl h).trans (S := fun k => MF m W k ∨ w.heap.size ≤ k ∧ k < w2.heap.size) h4 fun k _ h => .inr h) fun k hk e => by
      rcases e with e | e
      · exact e
      · omega
/-- A step of the arena is one of the memory. -/
theorem MemStep.ofAr {w w' : World} {m : Nat} {M : MemF.Mem} {W : MW} (h : MemX w m M W) {A' : MemF.Ar} (hs : ArenaStep w W.a W.X w' A') : MemStep w m W w' { M with ar := A' } := by
  obtain ⟨X', hX, h1, h2, hu⟩ := hs
  have hu2 : ∀ k, ¬ AF W.a W.X k → ¬ AM W.a W.X k := fun k hk h => hk (.inl h)
  refine ⟨{ W with X := X' }, ⟨hu.blk (hu2 m h.ne1) h.blk, hX, h.ep.upd hu fun k hk e => h.ne3 k (.inl e) hk, ?_, h.ne2, ?_⟩, ?_, hu.mono fun k _ e => .inr (.inl (.inl e))⟩
  · intro e
    rcases h2 m e with e | e
    · exact h.ne1 e
    · have := h.blk.lt; omega
  · intro k hk e
    rcases h2 k hk with e2 | e2
    · exact h.ne3 k e2 e
    · have := h.ep.lt k e; omega
  · rintro k (hk | hk | hk)
    · exact .inl (.inl hk)
    · rcases h2 k hk with e | e
      · exact .inl (.inr (.inl e))
      · exact .inr e
    · exact .inl (.inr (.inr hk))
theorem MemStep.ofEp {w w' : World} {m : Nat} {M : MemF.Mem} {W : MW} (h : MemX w m M W) {E' : MemF.Ep} (hs : EpStep w W.e W.Y w' E') : MemStep w m W w' { M with ep := E' } := by
  obtain ⟨Y', hY, h2, hu⟩ := hs
  refine ⟨{ W with Y := Y' }, ⟨hu.blk h.ne2 h.blk, h.ar.upd hu fun k hk e => h.ne3 k hk e, hY, h.ne1, ?_, ?_⟩, ?_, hu.mono fun k _ e => .inr (.inr e)⟩
  · intro e
    rcases h2 m e with e | e
    · exact h.ne2 e
    · have := h.blk.lt; omega
  · intro k hk e
    rcases h2 k e with e2 | e2
    · exact h.ne3 k hk e2
    · have := h.ar.lt k hk; omega
  · rintro k (hk | hk | hk)
    · exact .inl (.inl hk)
    · exact .inl (.inr (.inl hk))
    · rcases h2 k hk with e | e
      · exact .inl (.inr (.inr e))
      · exact .inr e
theorem MemStep.trans {w w' w'' : World} {m : Nat} {M' M'' : MemF.Mem} {W : MW} (h : MemStep w m W w' M') (h' : ∀ W', MemX w' m M' W' → MemStep w' m W' w'' M'') : MemStep w m W w'' M'' := by
  obtain ⟨W1, h1, h2, h3⟩ := h
  obtain ⟨W2, h4, h5, h6⟩ := h' W1 h1
  refine ⟨W2, h4, fun k hk => ?_, ?_⟩
  · rcases h5 k hk with e | e
    · exact h2 k e
    · exact .inr (Nat.le_trans h3.size e)
  · exact h3.trans h6 fun k hk e => by
      rcases h2 k e with e2 | e2
      · exact e2
      · omega
/-- A result's value: its words are in new memory. -/
def ResV (w w' : World) (r : MemF.Res) (e : Ending) : Prop := ∃ v, e = .returned (.agg #[.int .i64 r.err, .int .i64 r.n, .bool r.ok, v]) ∧ CellsR w' v r.words.length (u64s r.words) ∧ ∀ k, v.ownBlock = some k → w.heap.size ≤ k

theorem MemX.setHolder {w : World} {m : Nat} {M : MemF.Mem} {W : MW} (h : MemX w m M W) (c : Int) : MemStep w m W (w.setCell ⟨m, 4, none⟩ (.int .i64 c)) { M with holder := c } := by
  have hup : Upd (fun k => k = m) w (w.setCell ⟨m, 4, none⟩ (.int .i64 c)) := (Upd.refl (fun k => k = m) w).setCell (p := ⟨m, 4, none⟩) (.inl rfl) _
  refine ⟨W, ⟨?_, h.ar.upd hup fun k hk e => h.ne1 (e ▸ hk), h.ep.upd hup fun k hk e => h.ne2 (e ▸ hk), h.ne1, h.ne2, h.ne3⟩, fun _ h => .inl h, hup.mono fun k _ e => .inl e⟩
  have := h.blk.setCell 4 (.int .i64 c)
  simpa using this
theorem MemStep.alloc {w w' : World} {m : Nat} {M' : MemF.Mem} {W : MW} (h : MemStep w m W w' M') (o : Obj) : MemStep w m W (w'.alloc o) M' :=
  h.trans fun W' h' => ⟨W', h'.upd (S := fun _ => False) ((Upd.refl _ _).alloc _) (fun _ _ h => h), fun _ h => .inl h, (Upd.refl _ _).alloc _⟩
theorem MemStep.drew {w w' : World} {m : Nat} {M' : MemF.Mem} {W : MW} (h : MemStep w m W w' M') : MemStep w m W w'.drew M' :=
  h.trans fun W' h' => ⟨W', h'.upd (S := fun _ => False) ((Upd.refl _ _).drew) (fun _ _ h => h), fun _ h => .inl h, (Upd.refl _ _).drew⟩

/-- A result is stored. -/
theorem upd4 {S : Nat → Prop} (w : World) (b : Nat) (hb : S b) (v0 v1 v2 v3 : Value) : Upd S w ((((w.setCell ⟨b, 0, none⟩ v0).setCell ⟨b, 1, none⟩ v1).setCell ⟨b, 2, none⟩ v2).setCell ⟨b, 3, none⟩ v3) :=
  ((((Upd.refl S w).setCell (p := ⟨b, 0, none⟩) (.inl hb) _).setCell (p := ⟨b, 1, none⟩) (.inl hb) _).setCell (p := ⟨b, 2, none⟩) (.inl hb) _).setCell (p := ⟨b, 3, none⟩) (.inl hb) _
set_option maxRecDepth 100000 in
set_option maxHeartbeats 1000000 in
theorem turn_calls (m : Nat) (M : MemF.Mem) (W : MW) (c kind : Int) (w : World) (h : MemX w m M W) :
    Calls Try.prog 46 #[.pointer (some ⟨m, 0, none⟩), .int .i64 c, .int .i64 kind] w fun e w' => ResV w w' (M.turn c kind).2 e ∧ MemStep w m W w' (M.turn c kind).1 := by
  have hc := h.blk.cell
  have hf := h.blk.frozen
  have hlt := h.blk.lt
  have hX := Lib.hid h
  obtain ⟨H, hH⟩ : ∃ H, M.holder = H := ⟨_, rfl⟩
  rw [hH] at hc
  have hT : M.turn c kind = (if kind = 13 then (M, { n := H }) else if kind = 14 ∧ H < 0 then ({ M with holder := c }, { ok := true }) else if kind = 15 ∧ H = c then ({ M with holder := -1 }, { ok := true }) else (M, {})) := by unfold MemF.Mem.turn; rw [hH]
  have hno : ∀ k, (Value.slice none 0 0).ownBlock = some k → w.heap.size ≤ k := fun k hk => by simp [Value.ownBlock] at hk
  have hset := fun z => (h.setHolder z)
  replace hno := Lib.hid hno
  replace hset := Lib.hid hset
  clear h
  by_cases h13 : kind = 13
  · rw [if_pos h13] at hT
    rw [hT]
    subst h13
    clear hT
    go_enter Try.func46, Try.ntmps46
    go_wp2_with fail
    exact bodyPost_ret (v := .agg #[.int .i64 0, .int .i64 H, .bool false, .slice none 0 0]) (by simp [results, Try.results46, go_sem]) rfl ⟨⟨_, rfl, CellsR.nil _, hno.out⟩, (MemStep.same hX.out).alloc _⟩
  have h13' : (kind == 13) = false := by simpa using h13
  rw [if_neg h13] at hT
  clear h13
  by_cases h14 : kind = 14
  · subst h14
    by_cases hneg : H < 0
    · rw [if_pos ⟨rfl, hneg⟩] at hT
      rw [hT]
      clear hT
      go_enter Try.func46, Try.ntmps46
      go_wp2_with fail
      exact bodyPost_ret (v := .agg #[.int .i64 0, .int .i64 0, .bool true, .slice none 0 0]) (by simp [results, Try.results46, go_sem]) rfl ⟨⟨_, rfl, CellsR.nil _, hno.out⟩, (hset.out c).alloc _⟩
    · rw [if_neg (by omega), if_neg (by omega)] at hT
      rw [hT]
      have hneg' : 0 ≤ H := by omega
      clear hT hneg
      go_enter Try.func46, Try.ntmps46
      go_wp2_with fail
      exact bodyPost_ret (v := .agg #[.int .i64 0, .int .i64 0, .bool false, .slice none 0 0]) (by simp [results, Try.results46, go_sem]) rfl ⟨⟨_, rfl, CellsR.nil _, hno.out⟩, (MemStep.same hX.out).alloc _⟩
  have h14' : (kind == 14) = false := by simpa using h14
  rw [if_neg (by omega)] at hT
  clear h14
  by_cases h15 : kind = 15
  · subst h15
    by_cases hneg : H = c
    · rw [if_pos ⟨rfl, hneg⟩] at hT
      rw [hT]
      have hneg' : (H == c) = true := by simpa using hneg
      clear hT hneg
      go_enter Try.func46, Try.ntmps46
      go_wp2_with fail
      exact bodyPost_ret (v := .agg #[.int .i64 0, .int .i64 0, .bool true, .slice none 0 0]) (by simp [results, Try.results46, go_sem]) rfl ⟨⟨_, rfl, CellsR.nil _, hno.out⟩, (hset.out (-1)).alloc _⟩
    · rw [if_neg (by omega)] at hT
      rw [hT]
      have hneg' : (H == c) = false := by simpa using hneg
      clear hT hneg
      go_enter Try.func46, Try.ntmps46
      go_wp2_with fail
      exact bodyPost_ret (v := .agg #[.int .i64 0, .int .i64 0, .bool false, .slice none 0 0]) (by simp [results, Try.results46, go_sem]) rfl ⟨⟨_, rfl, CellsR.nil _, hno.out⟩, (MemStep.same hX.out).alloc _⟩
  · rw [if_neg (by omega)] at hT
    rw [hT]
    have h15' : (kind == 15) = false := by simpa using h15
    clear hT h15
    go_enter Try.func46, Try.ntmps46
    go_wp2_with fail
    exact bodyPost_ret (v := .agg #[.int .i64 0, .int .i64 0, .bool false, .slice none 0 0]) (by simp [results, Try.results46, go_sem]) rfl ⟨⟨_, rfl, CellsR.nil _, hno.out⟩, (MemStep.same hX.out).alloc _⟩

set_option maxRecDepth 100000 in
set_option maxHeartbeats 1000000 in
theorem memcollect_calls (m : Nat) (M : MemF.Mem) (W : MW) (c : Int) (w : World) (h : MemX w m M W) (hM : MemF.MemOk M) :
    Calls Try.prog 45 #[.pointer (some ⟨m, 0, none⟩), .int .i64 c] w fun e w' => ResV w w' (M.collect c).2 e ∧ MemStep w m W w' (M.collect c).1 := by
  have hc := h.blk.cell
  have hf := h.blk.frozen
  have hlt := h.blk.lt
  have hX := Lib.hid h
  have hX0 : MemX (w.alloc (.cells #[.int .i64 0, .int .i64 0, .bool false, .slice none 0 0] 44)) m M W := h.upd (S := fun _ => False) ((Upd.refl _ w).alloc _) (fun _ _ h => h)
  have hcol := ep_collect_calls W.e M.ep W.Y c _ hX0.ep hM.ep
  have hC : M.collect c = (if (M.ep.collect c).2.2 = false then (M, {}) else if (M.ar.freeSlot (M.ep.collect c).2.1).2 ≠ 0 then ({ M with ep := (M.ep.collect c).1, ar := (M.ar.freeSlot (M.ep.collect c).2.1).1 }, { err := (M.ar.freeSlot (M.ep.collect c).2.1).2 }) else ({ M with ep := (M.ep.collect c).1, ar := (M.ar.freeSlot (M.ep.collect c).2.1).1 }, { n := (M.ep.collect c).2.1, ok := true })) := rfl
  have hno : ∀ k, (Value.slice none 0 0).ownBlock = some k → w.heap.size ≤ k := fun k hk => by simp [Value.ownBlock] at hk
  replace hno := Lib.hid hno
  have hE0 : (M.ep.collect c).2.2 = false → (M.ep.collect c).1 = M.ep := by
    unfold MemF.Ep.collect
    split
    · exact fun _ => rfl
    · simp only
      split
      · exact fun _ => rfl
      · split
        · exact fun _ => rfl
        · intro h; cases h
  generalize M.ep.collect c = r at *
  obtain ⟨E', ref, ok⟩ := r
  simp only at hcol hC hE0
  have hblk0 : Blk (w.alloc (.cells #[.int .i64 0, .int .i64 0, .bool false, .slice none 0 0] 44)) w.heap.size [.int .i64 0, .int .i64 0, .bool false, .slice none 0 0] 44 := Blk.new _ _ _
  have hB0 : Below w.heap.size w (w.alloc (.cells #[.int .i64 0, .int .i64 0, .bool false, .slice none 0 0] 44)) := (Below.refl _ w).alloc (Nat.le_refl _) _
  have hszw : (w.alloc (.cells #[.int .i64 0, .int .i64 0, .bool false, .slice none 0 0] 44)).heap.size = w.heap.size + 1 := by simp
  have hnotF : ¬ EF W.e W.Y w.heap.size := fun hh => by have := h.ep.lt _ hh; omega
  have hMt := Lib.hid h.lt
  replace hX0 := Lib.hid hX0
  replace hblk0 := Lib.hid hblk0
  replace hB0 := Lib.hid hB0
  replace hszw := Lib.hid hszw
  replace hnotF := Lib.hid hnotF
  have hMok := Lib.hid hM
  clear h hM
  cases ok with
  | false =>
    rw [if_pos rfl] at hC
    rw [hC]
    have hE := hE0 rfl
    subst hE
    clear hC hE0
    go_enter Try.func45, Try.ntmps45
    go_wp2_with fail
    refine hcol.mono ?_
    rintro e w1 ⟨rfl, hst⟩
    have hb1 : Blk w1 w.heap.size [.int .i64 0, .int .i64 0, .bool false, .slice none 0 0] 44 := by obtain ⟨Y', h1, h2, h3⟩ := hst; exact h3.blk hnotF.out hblk0.out
    have hms := MemStep.wrap hX.out hB0.out (MemStep.ofEp hX0.out hst) (upd4 w1 w.heap.size ⟨Nat.le_refl _, by have := hszw.out; omega⟩ (.int .i64 0) (.int .i64 0) (.bool false) (.slice none 0 0))
    have hbc := hb1.cell
    have hbf := hb1.frozen
    replace hms := Lib.hid hms
    replace hst := Lib.hid hst
    replace hb1 := Lib.hid hb1
    clear hc hf
    go_wp2_with fail
    exact bodyPost_ret (v := .agg #[.int .i64 0, .int .i64 0, .bool false, .slice none 0 0]) (by simp [results, Try.results45, go_sem, hbc]) rfl ⟨⟨_, rfl, CellsR.nil _, hno.out⟩, hms.out⟩
  | true =>
    rw [if_neg (by simp)] at hC
    go_enter Try.func45, Try.ntmps45
    go_wp2_with fail
    refine hcol.mono ?_
    rintro e w1 ⟨rfl, hst⟩
    have hb1 : Blk w1 w.heap.size [.int .i64 0, .int .i64 0, .bool false, .slice none 0 0] 44 := by obtain ⟨Y', h1, h2, h3⟩ := hst; exact h3.blk hnotF.out hblk0.out
    obtain ⟨W1, hX1, hF1, hu1⟩ := MemStep.ofEp hX0.out hst
    have hnotF1 : ¬ MF m W1 w.heap.size := fun hh => by
      rcases hF1 _ hh with h | h
      · have := hMt.out _ h; omega
      · have := hszw.out; omega
    have hc1 := hX1.blk.cell
    have hfr := free_calls W1.a _ W1.X ref w1 hX1.ar hMok.out.ar
    simp only at hfr hc1
    replace hX1 := Lib.hid hX1
    replace hnotF1 := Lib.hid hnotF1
    replace hst := Lib.hid hst
    replace hF1 := Lib.hid hF1
    replace hu1 := Lib.hid hu1
    replace hb1 := Lib.hid hb1
    obtain ⟨A', er, hA⟩ : ∃ A' er, M.ar.freeSlot ref = (A', er) := ⟨_, _, rfl⟩
    rw [hA] at hfr hC
    simp only at hfr hC
    replace hA := Lib.hid hA
    clear hc hf hcol
    go_wp2_with fail
    refine hfr.mono ?_
    rintro e w2 ⟨rfl, hst2⟩
    clear hfr hc1
    have hb2 : Blk w2 w.heap.size [.int .i64 0, .int .i64 0, .bool false, .slice none 0 0] 44 := by obtain ⟨X', h1, h2, h3, h4⟩ := hst2; exact h4.blk (fun hh => hnotF1.out (.inr (.inl (.inl hh)))) hb1.out
    have hms2 : MemStep (w.alloc (.cells #[.int .i64 0, .int .i64 0, .bool false, .slice none 0 0] 44)) m W w2 { M with ep := E', ar := A' } := by
      obtain ⟨W2, hX2, hF2, hu2⟩ := MemStep.ofAr hX1.out hst2
      refine ⟨W2, hX2, fun k hk => ?_, ?_⟩
      · rcases hF2 k hk with e | e
        · exact hF1.out k e
        · exact .inr (Nat.le_trans hu1.out.size e)
      · exact hu1.out.trans hu2 fun k hk e => by
          rcases hF1.out k e with e2 | e2
          · exact e2
          · omega
    have hms := fun v0 v1 v2 v3 => MemStep.wrap hX.out hB0.out hms2 (upd4 w2 w.heap.size ⟨Nat.le_refl _, by have := hszw.out; omega⟩ v0 v1 v2 v3)
    have hbc := hb2.cell
    have hbf := hb2.frozen
    replace hms := Lib.hid hms
    replace hms2 := Lib.hid hms2
    replace hst2 := Lib.hid hst2
    replace hb2 := Lib.hid hb2
    by_cases her : er = 0
    · rw [if_neg (by omega)] at hC
      subst her
      replace hC := Lib.hid hC
      go_wp2_with fail
      exact bodyPost_ret (v := .agg #[.int .i64 0, .int .i64 ref, .bool true, .slice none 0 0]) (by simp [results, Try.results45, go_sem, hbc]) rfl (by rw [hC.out]; exact ⟨⟨_, rfl, CellsR.nil _, hno.out⟩, hms.out _ _ _ _⟩)
    · rw [if_pos her] at hC
      have her' : (er == 0) = false := by simpa using her
      clear her
      replace hC := Lib.hid hC
      go_wp2_with fail
      exact bodyPost_ret (v := .agg #[.int .i64 er, .int .i64 0, .bool false, .slice none 0 0]) (by simp [results, Try.results45, go_sem, hbc]) rfl (by rw [hC.out]; exact ⟨⟨_, rfl, CellsR.nil _, hno.out⟩, hms.out _ _ _ _⟩)
end Go.Proofs.Ytpobpijjpbggoaa
