/- package arena: Alloc, Free. -/
import Derived.Test.YtpobpijjpbggoaaArena4
set_option linter.unusedSimpArgs false
set_option linter.unusedVariables false
namespace Go.Proofs.Ytpobpijjpbggoaa
open Go.RowKit Go.Ten

/-- A pool of it has changed. -/
theorem ArenaX.setPool {w w' : World} {a : Nat} {A : MemF.Ar} {X : AW} (h : ArenaX w a A X) (c : Nat) (hc : c < 5) (h5 : A.free.length = 5) (S : List Int) (F' : List Nat) (hu : Upd (fun k => k ∈ X.Fs c) w w') (hP : PoolAt w' (X.bs c) 1024 S F')
    (hF : ∀ k ∈ F', k ∈ X.Fs c ∨ w.heap.size ≤ k) : ArenaX w' a { A with free := A.free.set c S } { X with Fs := fun d => if d = c then F' else X.Fs d } := by
  have hlt := h.lt
  have hn1 := h.ne1 c hc
  have hlta := h.blk.lt
  have hltg := h.row.lt
  have ha : a ∉ F' := fun hk => by
    rcases hF a hk with hk | hk
    · exact hn1.1 hk
    · omega
  have hg : X.gs ∉ F' := fun hk => by
    rcases hF _ hk with hk | hk
    · exact hn1.2 hk
    · omega
  refine ⟨hu.blk hn1.1 h.blk, hu.blk hn1.2 h.row, h.cap, h.vlen, fun i hi => ⟨(h.words i hi).1.upd hu ?_, (h.words i hi).2⟩, ?_, ?_, h.ne, ?_, ?_⟩
  · intro k _ hk e
    exact h.off _ (get!_mem _ _ (by rw [h.vlen]; exact hi)) k hk (.inr (.inr ⟨c, hc, e⟩))
  · rintro v hv k hk (rfl | rfl | ⟨d, hd, hkd⟩)
    · exact h.off v hv _ hk (.inl rfl)
    · exact h.off v hv _ hk (.inr (.inl rfl))
    · simp only at hkd
      split at hkd
      · rcases hF k hkd with hk2 | hk2
        · exact h.off v hv _ hk (.inr (.inr ⟨c, hc, hk2⟩))
        · have := hlt k (.inr ⟨v, hv, hk⟩)
          omega
      · exact h.off v hv _ hk (.inr (.inr ⟨d, hd, hkd⟩))
  · intro d hd
    simp only
    rw [get_set! _ _ _ _ (by omega)]
    split
    · rename_i e; subst e; exact hP
    · rename_i e
      exact PoolAt.upd hu (h.pools d hd) fun k hk hk2 => e (h.ne2 d c k hd hc hk hk2)
  · intro d hd
    simp only
    split
    · exact ⟨ha, hg⟩
    · exact h.ne1 d hd
  · intro d e k hd he hkd hke
    simp only at hkd hke
    split at hkd <;> split at hke
    · omega
    · rcases hF k hkd with hk2 | hk2
      · rename_i e1 e2; rw [e1]; exact h.ne2 c e k hc he hk2 hke
      · have := hlt k (.inl (.inr (.inr ⟨e, he, hke⟩))); omega
    · rcases hF k hke with hk2 | hk2
      · rename_i e1 e2; rw [e2]; exact h.ne2 d c k hd hc hkd hk2
      · have := hlt k (.inl (.inr (.inr ⟨d, hd, hkd⟩))); omega
    · exact h.ne2 d e k hd he hkd hke

theorem blkA_cell {w : World} {a : Nat} {A : MemF.Ar} {X : AW} (h : ArenaX w a A X) (c : Nat) (hc : c < 5) : w.cell? ⟨a, 1 + c, none⟩ = some (.pointer (some ⟨X.bs c, 0, none⟩)) := by
  rw [h.blk.cell]
  match c, hc with
  | 0, _ | 1, _ | 2, _ | 3, _ | 4, _ => rfl

set_option maxRecDepth 100000 in
set_option maxHeartbeats 1000000 in
theorem alloc_bad_calls (a : Nat) (A : MemF.Ar) (X : AW) (c : Int) (v : Value) (ws : List Int) (w : World) (hv : CellsR w v ws.length (u64s ws)) (hbad : c < 0 ∨ 5 ≤ c ∨ MemF.size c < ws.length) :
    Calls Try.prog 34 #[.pointer (some ⟨a, 0, none⟩), .int .i64 c, v] w fun e w' => e = .returned (.tuple #[.int .i64 0, .int .i64 1]) ∧ w = w' := by
  obtain ⟨p, cp, rfl, -⟩ := hv
  have hsz := size_calls c
  generalize MemF.size c = n at *
  generalize ws.length = m at *
  by_cases h0 : c < 0
  · clear hbad
    go_enter Try.func34, Try.ntmps34
    go_wp2
    go_ret2
    exact ⟨rfl, rfl⟩
  by_cases h1 : 5 ≤ c
  · have h0' : 0 ≤ c := by omega
    clear hbad h0
    go_enter Try.func34, Try.ntmps34
    go_wp2
    go_ret2
    exact ⟨rfl, rfl⟩
  have h2 : n < m := by omega
  have h0' : 0 ≤ c := by omega
  have h1' : c < 5 := by omega
  clear hbad h0 h1
  go_enter Try.func34, Try.ntmps34
  go_wp2_with fail
  refine (hsz _).mono ?_
  rintro e w' ⟨rfl, rfl⟩
  go_wp2_with fail
  go_ret2
  exact ⟨rfl, rfl⟩

set_option maxRecDepth 100000 in
set_option maxHeartbeats 1000000 in
theorem alloc_full_calls (a : Nat) (A : MemF.Ar) (X : AW) (c : Nat) (v : Value) (ws : List Int) (w : World) (h : ArenaX w a A X) (hv : CellsR w v ws.length (u64s ws)) (hc : c < 5) (hl : ws.length ≤ MemF.size c) (hf : A.free[c]! = []) :
    Calls Try.prog 34 #[.pointer (some ⟨a, 0, none⟩), .int .i64 c, v] w fun e w' => e = .returned (.tuple #[.int .i64 0, .int .i64 2]) ∧ w = w' := by
  obtain ⟨p, cp, rfl, -⟩ := hv
  have hsz := size_calls c
  generalize MemF.size c = n at *
  generalize ws.length = m at *
  have hP := h.pools c hc
  rw [hf] at hP
  have ht := pool_take_none _ _ _ w hP
  have hcell := blkA_cell h c hc
  have h0 : (0 : Int) ≤ c := by omega
  have h1 : (c : Int) < 5 := by omega
  clear h hP hf
  go_enter Try.func34, Try.ntmps34
  go_wp2_with fail
  refine (hsz _).mono ?_
  rintro e w' ⟨rfl, rfl⟩
  go_wp2_with fail
  refine ht.mono ?_
  rintro e w' ⟨rfl, rfl⟩
  go_wp2_with fail
  go_ret2
  exact ⟨rfl, rfl⟩

set_option maxRecDepth 100000 in
set_option maxHeartbeats 1000000 in
theorem alloc_ok_calls (a : Nat) (A : MemF.Ar) (X : AW) (c : Nat) (v : Value) (ws : List Int) (x : Nat) (l : List Int) (s : MemF.Slot) (w : World) (h : ArenaX w a A X) (h5 : A.free.length = 5) (hv : CellsR w v ws.length (u64s ws)) (hoff : ∀ k, v.ownBlock = some k → ¬ AM a X k) (hc : c < 5) (hl : ws.length ≤ MemF.size c) (hf : A.free[c]! = (x : Int) :: l)
    (hx : x < A.slots.length) (hs : A.slots[x]! = s) (hcl : s.cls = c) :
    Calls Try.prog 34 #[.pointer (some ⟨a, 0, none⟩), .int .i64 c, v] w fun e w' => e = .returned (.tuple #[.int .i64 (MemF.ref x s.gen (decide ((c : Int) = 0))), .int .i64 0]) ∧
      ArenaStep w a X w' { slots := A.slots.set x { s with live := true, words := MemF.fill s.cls ws }, free := A.free.set c l } := by
  have hsz := size_calls c
  have h8 := size_pos c (by omega) (by omega)
  have hP := h.pools c hc
  rw [hf] at hP
  have ht := pool_take _ _ _ _ _ w hP
  have hcell := blkA_cell h c hc
  have hlen := h.blk.cell 0
  have h0 : (0 : Int) ≤ c := by omega
  have h1 : (c : Int) < 5 := by omega
  have hX := Lib.hid h
  have hs' := Lib.hid hs
  have hf' := Lib.hid hf
  have hlI : (ws.length : Int) ≤ (MemF.size c : Int) := by omega
  have hd : decide (c = 0) = decide ((c : Int) = 0) := by rw [Bool.eq_iff_iff]; simp
  have hd := Lib.hid hd
  obtain ⟨N, hN⟩ : ∃ N, A.slots.length = N := ⟨_, rfl⟩
  rw [hN] at hx
  replace hN := Lib.hid hN
  have hxI : (x : Int) < (N : Int) := by omega
  have hv' := Lib.hid hv
  have hoff' := Lib.hid hoff
  have hcl' := Lib.hid hcl
  have hl' := Lib.hid hl
  obtain ⟨p, cp, rfl, -⟩ := hv
  obtain ⟨m, hm⟩ : ∃ m, ws.length = m := ⟨_, rfl⟩
  obtain ⟨n, hn⟩ : ∃ n, MemF.size c = n := ⟨_, rfl⟩
  rw [hm] at hlI ⊢
  rw [hn] at hsz hlI
  replace hm := Lib.hid hm
  replace hn := Lib.hid hn
  clear h hP hf hs hoff hlen hcl hl
  go_enter Try.func34, Try.ntmps34
  go_wp2_with fail
  refine (hsz _).mono ?_
  rintro e w' ⟨rfl, rfl⟩
  clear hsz
  go_wp2_with fail
  refine ht.mono ?_
  rintro e w1 ⟨rfl, hP1, hu1⟩
  clear ht
  have hX1 := hX.out.setPool c hc h5 l (X.Fs c) hu1 hP1 (fun k hk => .inl hk)
  have hx0 : x < A.slots.length := by rw [hN.out]; exact hx
  have hX2 := hX1.set0 x 2 hx0 (by omega) { s with live := true } (.bool true) (by simp only [hs'.out]; rfl) (by simp only [hs'.out])
  have e1 := hX1.blk.cell 0
  have e2 := hX1.cell x 2 hx0 (by omega)
  have e3 := hX1.row.frozen
  have e4 := hX2.cell x 1 (by simp [MemF.Ar.setSlot]; exact hx0) (by omega)
  simp only [slotC, List.getElem?_cons_zero, List.getElem?_cons_succ, hN.out] at e1 e2
  have hup2 : Upd (AM a X) w (w1.setCell ⟨X.gs, x * 4 + 2, none⟩ (.bool true)) := (hu1.mono (S' := AM a X) (fun k _ e => .inr (.inr ⟨c, hc, e⟩))).setCell (p := ⟨X.gs, x * 4 + 2, none⟩) (.inl (.inr (.inl rfl))) _
  have hfill := fill_calls a _ _ x { s with live := true } (.slice p m cp) ws _ hX2 (by simp [MemF.Ar.setSlot]; exact hx0) (by simp only [MemF.Ar.setSlot]; rw [get_set! _ _ _ _ hx0, if_pos rfl])
    (by rw [hm.out]; rw [hm.out] at hv'; exact hv'.out.upd hup2 fun k _ hk => hoff'.out k (by simpa [hm.out] using hk)) (by show _ ≤ MemF.size s.cls; rw [hcl'.out]; exact hl'.out) (by show _ ≤ MemF.size s.cls; rw [hcl'.out]; exact h8)
    (fun k hk e => hoff'.out k (by simpa [hm.out] using hk) (.inr (.inl e)))
  simp only [MemF.Ar.setSlot, List.set_set] at hfill
  replace hX1 := Lib.hid hX1
  replace hX2 := Lib.hid hX2
  replace hP1 := Lib.hid hP1
  replace hu1 := Lib.hid hu1
  replace hup2 := Lib.hid hup2
  clear hcell
  go_wp2_with fail
  refine hfill.mono ?_
  rintro e w2 ⟨rfl, u, hX3, hu, hup3⟩
  clear hfill
  have e5 := hX3.cell x 1 (by simpa using hx0) (by omega)
  simp only [slotC, List.getElem?_cons_zero, List.getElem?_cons_succ, get_set! _ _ _ _ hx0, if_true] at e5
  replace hX3 := Lib.hid hX3
  replace hu := Lib.hid hu
  replace hup3 := Lib.hid hup3
  clear e1 e2 e3 e4
  go_wp2_with fail
  refine (word_ref_calls x s.gen _ w2).mono ?_
  rintro e w3 ⟨rfl, rfl⟩
  go_wp2_with fail
  go_ret2
  refine ⟨?_, _, hX3.out, ?_, ?_, ?_⟩
  · have e9 : ∀ b1 b2 : Bool, b1 = b2 → Ending.returned (.tuple #[.int .i64 (MemF.ref x s.gen b1), .int .i64 0]) = Ending.returned (.tuple #[.int .i64 (MemF.ref x s.gen b2), .int .i64 0]) := fun b1 b2 e => by rw [e]
    exact e9 _ _ (by rw [Bool.eq_iff_iff]; simp)
  · rintro k (e | e | ⟨d, hdd, hk⟩)
    · exact .inl (.inl e)
    · exact .inl (.inr (.inl e))
    · refine .inl (.inr (.inr ⟨d, hdd, ?_⟩))
      simp only at hk
      split at hk
      · rename_i e; rw [e]; exact hk
      · exact hk
  · rintro k (⟨e | e | ⟨d, hdd, hk⟩⟩ | ⟨y, hy, hk⟩)
    · exact .inl (.inl (.inl e))
    · exact .inl (.inl (.inr (.inl e)))
    · refine .inl (.inl (.inr (.inr ⟨d, hdd, ?_⟩)))
      simp only at hk
      split at hk
      · rename_i e; rw [e]; exact hk
      · exact hk
    · rcases List.mem_or_eq_of_mem_set hy with hy | rfl
      · exact .inl (.inr ⟨y, hy, hk⟩)
      · refine .inr ?_
        have := hu.out k hk
        have := hup2.out.size
        omega
  · exact hup2.out.trans hup3.out fun k _ e => .inr (.inl e)

theorem alloc_calls (a : Nat) (A : MemF.Ar) (X : AW) (c : Int) (v : Value) (ws : List Int) (w : World) (h : ArenaX w a A X) (hA : MemF.ArOk A) (hv : CellsR w v ws.length (u64s ws)) (hoff : ∀ k, v.ownBlock = some k → ¬ AM a X k) :
    Calls Try.prog 34 #[.pointer (some ⟨a, 0, none⟩), .int .i64 c, v] w fun e w' => e = .returned (.tuple #[.int .i64 (A.alloc c ws).2.1, .int .i64 (A.alloc c ws).2.2]) ∧ ArenaStep w a X w' (A.alloc c ws).1 := by
  by_cases hb : c < 0 ∨ 5 ≤ c ∨ MemF.size c < ws.length
  · have e : A.alloc c ws = (A, 0, 1) := by unfold MemF.Ar.alloc; rw [if_pos hb]
    rw [e]
    refine (alloc_bad_calls a A X c v ws w hv hb).mono ?_
    rintro e w' ⟨rfl, rfl⟩
    exact ⟨rfl, ArenaStep.same h⟩
  · obtain ⟨n, rfl⟩ := Int.eq_ofNat_of_zero_le (show 0 ≤ c by omega)
    have hn : n < 5 := by omega
    have e : A.alloc n ws = (match A.free[n]! with | [] => (A, 0, 2) | x :: l => ({ slots := A.slots.set x.toNat { A.slots[x.toNat]! with live := true, words := MemF.fill (A.slots[x.toNat]!).cls ws }, free := A.free.set n l }, MemF.ref x (A.slots[x.toNat]!).gen (decide ((n : Int) = 0)), 0)) := by
      unfold MemF.Ar.alloc; rw [if_neg hb, Int.toNat_natCast]; rfl
    cases hf : A.free[n]! with
    | nil =>
      rw [hf] at e
      rw [e]
      refine (alloc_full_calls a A X n v ws w h hv hn (by omega) hf).mono ?_
      rintro e w' ⟨rfl, rfl⟩
      exact ⟨rfl, ArenaStep.same h⟩
    | cons x l =>
      rw [hf] at e
      rw [e]
      obtain ⟨h1, h2, h3, h4, h5⟩ := hA.free n hn x (by rw [hf]; simp)
      obtain ⟨i, rfl⟩ := Int.eq_ofNat_of_zero_le h1
      rw [Int.toNat_natCast] at h3
      exact alloc_ok_calls a A X n v ws i l _ w h hA.five hv hoff hn (by omega) hf (by omega) rfl h3
theorem size_poison (c : Int) : (MemF.poison c).length = MemF.size c := by unfold MemF.poison; simp
set_option maxRecDepth 100000 in
set_option maxHeartbeats 1000000 in
theorem free_calls (a : Nat) (A : MemF.Ar) (X : AW) (r : Int) (w : World) (h : ArenaX w a A X) (hA : MemF.ArOk A) :
    Calls Try.prog 76 #[.pointer (some ⟨a, 0, none⟩), .int .i64 r] w fun e w' => e = .returned (.int .i64 (A.freeSlot r).2) ∧ ArenaStep w a X w' (A.freeSlot r).1 := by
  have hof := of_calls a A X r w h
  have hok := @MemF.of_ok A r
  have hst : A.freeSlot r = if (A.of r).1 ≠ 0 then (A, (A.of r).1) else ({ slots := A.slots.set (A.of r).2 { A.slots[(A.of r).2]! with gen := A.slots[(A.of r).2]!.gen + 1, live := false, words := MemF.poison A.slots[(A.of r).2]!.cls }, free := if A.slots[(A.of r).2]!.gen + 1 ≤ 1073741824 then A.free.set A.slots[(A.of r).2]!.cls.toNat (MemF.ins (A.of r).2 A.free[A.slots[(A.of r).2]!.cls.toNat]!) else A.free }, 0) := rfl
  generalize A.of r = o at *
  obtain ⟨er, i⟩ := o
  simp only at hof hok hst
  by_cases h0 : er = 0
  · subst h0
    obtain ⟨hi, hlive, hpok, hpi, -⟩ := hok rfl
    rw [if_neg (by simp)] at hst
    rw [if_pos rfl] at hof
    clear hok
    obtain ⟨s, hs⟩ : ∃ s, A.slots[i]! = s := ⟨_, rfl⟩
    have hmem := get!_mem A.slots i hi
    rw [hs] at hst hmem hlive
    have hcl := hA.cls _ hmem
    have hg := hA.gen _ hmem
    obtain ⟨c, hc⟩ := Int.eq_ofNat_of_zero_le hcl.1
    have hc5 : c < 5 := by omega
    rw [hc, Int.toNat_natCast] at hst
    have h8 := size_pos c (by omega) (by omega)
    have hni : (i : Int) ∉ A.free[c]! := by
      intro hh
      have := (hA.free c hc5 _ hh).2.2.2.1
      rw [Int.toNat_natCast, hs, hlive] at this
      cases this
    have hfl := hA.freeLen c hc5
    have hfew := hA.few
    have h5 := hA.five
    have hparts := word_parts_calls r
    unfold partsV at hparts
    have hp1 : (MemF.parts r).1 = i := by
      have : 0 ≤ (MemF.parts r).1 := by
        unfold MemF.parts
        simp only
        split
        · exact Int.le_refl _
        · exact Int.emod_nonneg _ (by decide)
      omega
    rw [hp1] at hparts
    generalize MemF.parts r = P at *
    have c0 := h.cell i 0 hi (by omega)
    have c3 := h.cell i 3 hi (by omega)
    simp only [slotC, Nat.add_zero, List.getElem?_cons_zero, List.getElem?_cons_succ] at c0 c3
    rw [hs, hc] at c0
    have hf := h.row.frozen
    have hpo := poison_calls c w
    have hX := Lib.hid h
    have hpl := size_poison c
    generalize X.vs[i]! = v0 at *
    have hltg := h.row.lt
    have hlts := Lib.hid h.lt
    obtain ⟨gg, hgg⟩ : ∃ gg, s.gen = gg := ⟨_, rfl⟩
    rw [hgg] at hg hst
    obtain ⟨hg1, hg2⟩ := hg
    replace hgg := Lib.hid hgg
    have hs' := Lib.hid hs
    have hc' := Lib.hid hc
    replace hni := Lib.hid hni
    replace hp1 := Lib.hid hp1
    replace hpi := Lib.hid hpi
    replace hpok := Lib.hid hpok
    replace hlive := Lib.hid hlive
    replace hpl := Lib.hid hpl
    replace h5 := Lib.hid h5
    have hst' := Lib.hid hst
    clear h hA hs hmem hcl hc hst
    go_enter Try.func76, Try.ntmps76
    go_wp2_with fail
    refine hof.mono ?_
    rintro e w' ⟨rfl, rfl⟩
    clear hof
    go_wp2_with fail
    refine hpo.mono ?_
    rintro e w1 ⟨g, rfl, hge, hb1, hB1⟩
    clear hpo
    have hX1 : ArenaX w1 a A X := hX.out.upd (S := fun _ => False) (Upd.of_below' hB1) (fun _ _ h => h)
    have hnAM : ∀ k, (Value.slice (some ⟨g, 0, none⟩) (MemF.size c) (MemF.size c)).ownBlock = some k → ¬ AM a X k := by
      intro k hk hAM
      have : k = g := by simpa [Value.ownBlock] using hk.symm
      have := hlts.out k (.inl hAM)
      omega
    have hX2 := hX1.set i 3 hi (by omega) { s with words := MemF.poison c } (.slice (some ⟨g, 0, none⟩) (MemF.size c) (MemF.size c)) (.slice (some ⟨g, 0, none⟩) (MemF.size c) (MemF.size c)) (by rw [hs'.out]; rfl)
      (by
        constructor
        · show CellsR w1 _ (MemF.poison c).length _
          rw [hpl.out]
          have h4 : Blk w1 g (u64s (MemF.poison c) ++ []) 36 := by rw [List.append_nil]; exact hb1
          have := size_le c
          exact CellsR.blk h4 (by omega) (Nat.le_refl _) (fun h0 => by omega)
        · show 0 < (MemF.poison c).length
          rw [hpl.out]; omega) hnAM
    have hX3 := hX2.set0 i 1 (by simp [MemF.Ar.setSlot]; exact hi) (by omega) { s with gen := gg + 1, words := MemF.poison c } (.int .i64 (gg + 1)) (by simp only [MemF.Ar.setSlot]; rw [get_set! _ _ _ _ hi, if_pos rfl]; rfl) (by simp only [MemF.Ar.setSlot]; rw [get_set! _ _ _ _ hi, if_pos rfl])
    have hX4 := hX3.set0 i 2 (by simp [MemF.Ar.setSlot]; exact hi) (by omega) { s with gen := gg + 1, live := false, words := MemF.poison c } (.bool false) (by simp only [MemF.Ar.setSlot, List.set_set]; rw [get_set! _ _ _ _ hi, if_pos rfl]; rfl) (by simp only [MemF.Ar.setSlot, List.set_set]; rw [get_set! _ _ _ _ hi, if_pos rfl])
    simp only [MemF.Ar.setSlot, List.set_set] at hX2 hX3 hX4
    have d3 := hX1.cell i 3 hi (by omega)
    have d1 := hX2.cell i 1 (by simp; exact hi) (by omega)
    have d2 := hX3.cell i 2 (by simp; exact hi) (by omega)
    have d4 := hX4.cell i 1 (by simp; exact hi) (by omega)
    have d5 := hX4.cell i 0 (by simp; exact hi) (by omega)
    have d6 := blkA_cell hX4 c hc5
    simp only [slotC, Nat.add_zero, List.getElem?_cons_zero, List.getElem?_cons_succ, get_set! _ _ _ _ hi, if_true, hc'.out, hgg.out] at d1 d2 d3 d4 d5 d6
    have f1 := hX1.row.frozen
    have hup : Upd (AM a X) w (((w1.setCell ⟨X.gs, i * 4 + 3, none⟩ (.slice (some ⟨g, 0, none⟩) (MemF.size c) (MemF.size c))).setCell ⟨X.gs, i * 4 + 1, none⟩ (.int .i64 (gg + 1))).setCell ⟨X.gs, i * 4 + 2, none⟩ (.bool false)) :=
      (((Upd.of_below' hB1).setCell (p := ⟨X.gs, i * 4 + 3, none⟩) (.inl (.inr (.inl rfl))) _).setCell (p := ⟨X.gs, i * 4 + 1, none⟩) (.inl (.inr (.inl rfl))) _).setCell (p := ⟨X.gs, i * 4 + 2, none⟩) (.inl (.inr (.inl rfl))) _
    have hAFv : ∀ k, AF a { X with vs := X.vs.set i (.slice (some ⟨g, 0, none⟩) (MemF.size c) (MemF.size c)) } k → AF a X k ∨ w.heap.size ≤ k := fun k hk => AF_set (fun k2 hk2 => by
      have : k2 = g := by simpa [Value.ownBlock] using hk2.symm
      omega) hk
    replace hX1 := Lib.hid hX1
    replace hX2 := Lib.hid hX2
    replace hX3 := Lib.hid hX3
    replace hX4 := Lib.hid hX4
    replace hup := Lib.hid hup
    replace hAFv := Lib.hid hAFv
    replace hb1 := Lib.hid hb1
    replace hB1 := Lib.hid hB1
    replace hnAM := Lib.hid hnAM
    clear c0 c3 hf
    by_cases hgen : gg + 1 ≤ 1073741824
    · have hX4d : ArenaX (((w1.setCell ⟨X.gs, i * 4 + 3, none⟩ (.slice (some ⟨g, 0, none⟩) (MemF.size c) (MemF.size c))).setCell ⟨X.gs, i * 4 + 1, none⟩ (.int .i64 (gg + 1))).setCell ⟨X.gs, i * 4 + 2, none⟩ (.bool false)).drew a _ _ :=
        hX4.out.upd (S := fun _ => False) ((Upd.refl _ _).drew) (fun _ _ h => h)
      have hPput := pool_put _ _ _ _ (i : Int) _ (hX4d.pools c hc5) (by omega) (by omega) hni.out (by show (A.free[c]!).length + 1 < 65536; omega)
      simp only at hPput
      replace hfl := Lib.hid hfl
      replace hX4d := Lib.hid hX4d
      go_wp2_with fail
      refine (hparts _).mono ?_
      rintro e w' ⟨rfl, rfl⟩
      clear hparts
      go_wp2_with fail
      refine undraw ?hB ?_
      case hB => kernel_rfl
      intro K hK
      simp only [Undraw.withAsks, Undraw.asksOf, Undraw.intsOf, Undraw.strsOf, List.contains, List.elem, Nat.reduceBEq, if_true, List.map_nil, List.map_cons, List.nil_append, List.append_nil, List.cons_append]
      go_wp2_with fail
      refine hPput.mono ?_
      rintro e w2 ⟨rfl, F', hP2, hF2, hup2⟩
      clear hPput d1 d2 d3 d4 d5 d6 f1
      have hX5 := hX4d.out.setPool c hc5 h5.out _ F' hup2 hP2 hF2
      replace hX5 := Lib.hid hX5
      replace hup2 := Lib.hid hup2
      replace hF2 := Lib.hid hF2
      clear hP2
      go_wp2_with fail
      go_ret
      have hst := hst'.out
      rw [if_pos hgen] at hst
      rw [hst]
      have hup := hup.out
      have hsz := hup.size
      refine ⟨rfl, _, by rw [← hc'.out] at hX5 ⊢; exact hX5.out, ?_, ?_, ?_⟩
      · rintro k (e | e | ⟨d, hdd, hk⟩)
        · exact .inl (.inl e)
        · exact .inl (.inr (.inl e))
        · simp only at hk
          split at hk
          · rename_i e
            rcases hF2.out k hk with hk2 | hk2
            · exact .inl (.inr (.inr ⟨c, hc5, hk2⟩))
            · refine .inr (Nat.le_trans hsz ?_); exact hk2
          · exact .inl (.inr (.inr ⟨d, hdd, hk⟩))
      · rintro k (⟨e | e | ⟨d, hdd, hk⟩⟩ | hk)
        · exact .inl (.inl (.inl e))
        · exact .inl (.inl (.inr (.inl e)))
        · simp only at hk
          split at hk
          · rename_i e
            rcases hF2.out k hk with hk2 | hk2
            · exact .inl (.inl (.inr (.inr ⟨c, hc5, hk2⟩)))
            · refine .inr (Nat.le_trans hsz ?_); exact hk2
          · exact .inl (.inl (.inr (.inr ⟨d, hdd, hk⟩)))
        · exact hAFv.out k (.inr (by rw [hc'.out] at hk; exact hk))
      · exact (hup.drew).trans hup2.out fun k _ e => .inr (.inr ⟨c, hc5, e⟩)
    · replace hfl := Lib.hid hfl
      go_wp2_with fail
      refine (hparts _).mono ?_
      rintro e w' ⟨rfl, rfl⟩
      clear hparts
      go_wp2_with fail
      go_ret
      have hst := hst'.out
      rw [if_neg (by omega)] at hst
      rw [hst]
      have hX6 := hX4.out
      rw [hc'.out] at hX6
      exact ⟨rfl, _, hX6, fun k hk => .inl hk, hAFv.out, hup.out⟩
  · rw [if_pos h0] at hst
    rw [hst]
    rw [if_neg h0] at hof
    have hX := Lib.hid h
    clear hst hok h hA
    have h1 : (er == 0) = false := by simpa using h0
    clear h0
    go_enter Try.func76, Try.ntmps76
    go_wp2_with fail
    refine hof.mono ?_
    rintro e w' ⟨rfl, rfl⟩
    clear hof
    go_wp2_with fail
    go_ret
    exact ⟨rfl, ArenaStep.same hX.out⟩
end Go.Proofs.Ytpobpijjpbggoaa
