/- package arena: Swap, Live. -/
import Derived.Test.YtpobpijjpbggoaaArena3
set_option linter.unusedSimpArgs false
set_option linter.unusedVariables false
namespace Go.Proofs.Ytpobpijjpbggoaa
open Go.RowKit Go.Ten

set_option maxRecDepth 100000 in
set_option maxHeartbeats 1000000 in
theorem swap_calls (a : Nat) (A : MemF.Ar) (X : AW) (r was : Int) (v : Value) (ws : List Int) (w : World) (h : ArenaX w a A X) (hA : MemF.ArOk A) (hv : CellsR w v ws.length (u64s ws)) (hoff : ∀ k, v.ownBlock = some k → k ≠ X.gs) :
    Calls Try.prog 74 #[.pointer (some ⟨a, 0, none⟩), .int .i64 r, .int .u64 was, v] w fun e w' => e = .returned (.tuple #[.bool (A.swap r was ws).2.1, .int .i64 (A.swap r was ws).2.2]) ∧ ArenaStep w a X w' (A.swap r was ws).1 := by
  have hof := of_calls a A X r w h
  have hok := @MemF.of_ok A r
  have hst : A.swap r was ws = if (A.of r).1 ≠ 0 then (A, false, (A.of r).1) else if A.slots[(A.of r).2]!.words.length < ws.length then (A, false, 1) else if A.slots[(A.of r).2]!.words[0]! ≠ was then (A, false, 0) else (A.setSlot (A.of r).2 { A.slots[(A.of r).2]! with words := MemF.fill A.slots[(A.of r).2]!.cls ws }, true, 0) := rfl
  generalize A.of r = o at *
  obtain ⟨er, i⟩ := o
  simp only at hof hok hst
  by_cases h0 : er = 0
  · subst h0
    obtain ⟨hi, -⟩ := hok rfl
    rw [if_neg (by simp)] at hst
    rw [if_pos rfl] at hof
    clear hok
    have c3 := h.cell i 3 hi (by omega)
    simp only [slotC, List.getElem?_cons_zero, List.getElem?_cons_succ] at c3
    obtain ⟨hw, hpos⟩ := h.words i hi
    have hmem := get!_mem A.slots i hi
    have hwl := hA.words _ hmem
    have hcl := hA.cls _ hmem
    have h8 := size_pos _ hcl.1 hcl.2
    have hfill := fun (s : MemF.Slot) (hs : A.slots[i]! = s) (hl : ws.length ≤ MemF.size s.cls) => fill_calls a A X i s v ws w h hi hs hv hl (by rw [← hs]; exact h8) hoff
    obtain ⟨s, hs⟩ : ∃ s, A.slots[i]! = s := ⟨_, rfl⟩
    rw [hs] at hst hw hpos hwl hcl h8
    have hfill := hfill s hs
    generalize X.vs[i]! = v0 at *
    have hw0 : ∃ x, s.words[0]! = x ∧ (u64s s.words)[0]? = some (.int .u64 x) := by
      refine ⟨_, rfl, ?_⟩
      rw [getElem!_pos s.words 0 hpos]
      simp [hpos]
    obtain ⟨x, hx, hx0⟩ := hw0
    obtain ⟨p, c, rfl, -, -, -, -, hcell⟩ := id hw
    obtain ⟨b, o, rfl, hc0⟩ := hcell 0 _ hx0
    rw [Nat.add_zero] at hc0
    obtain ⟨p1, c1, hv1, -⟩ := id hv
    subst hv1
    obtain ⟨n, hn⟩ : ∃ n, s.words.length = n := ⟨_, rfl⟩
    obtain ⟨m, hm⟩ : ∃ m, ws.length = m := ⟨_, rfl⟩
    rw [hn] at c3 hst hwl hpos
    rw [hm] at hst hfill ⊢
    rw [hx] at hst
    have hX := Lib.hid h
    clear h hw hv hs hoff hA hmem hcl h8 hcell hx0 hx
    by_cases h1 : n < m
    · rw [if_pos h1] at hst
      rw [hst]
      clear hst hfill hwl hm hn
      have h1' : (n : Int) < (m : Int) := by omega
      go_enter Try.func74, Try.ntmps74
      go_wp2_with fail
      refine hof.mono ?_
      rintro e w' ⟨rfl, rfl⟩
      clear hof
      go_wp2_with fail
      go_ret2
      exact ⟨rfl, ArenaStep.same hX.out⟩
    · rw [if_neg h1] at hst
      have hfill := hfill (by omega)
      clear hwl hm hn
      have h1' : ¬ (n : Int) < (m : Int) := by omega
      clear h1
      by_cases h2 : x = was
      · rw [if_neg (by simp [h2])] at hst
        rw [hst]
        clear hst
        have h2' : (x != was) = false := by simpa using h2
        clear h2
        go_enter Try.func74, Try.ntmps74
        go_wp2_with fail
        refine hof.mono ?_
        rintro e w' ⟨rfl, rfl⟩
        clear hof
        go_wp2_with fail
        refine hfill.mono ?_
        rintro e w1 ⟨rfl, u, hX1, hu, hup⟩
        clear hfill
        replace hX1 := Lib.hid hX1
        replace hu := Lib.hid hu
        replace hup := Lib.hid hup
        go_wp2_with fail
        go_ret2
        exact ⟨rfl, _, hX1.out, fun k hk => .inl hk, fun k hk => AF_set hu.out hk, hup.out.mono fun k _ e => .inr (.inl e)⟩
      · rw [if_pos h2] at hst
        rw [hst]
        clear hst hfill
        have h2' : (x != was) = true := by simpa using h2
        clear h2
        go_enter Try.func74, Try.ntmps74
        go_wp2_with fail
        refine hof.mono ?_
        rintro e w' ⟨rfl, rfl⟩
        clear hof
        go_wp2_with fail
        go_ret2
        exact ⟨rfl, ArenaStep.same hX.out⟩
  · rw [if_pos h0] at hst
    rw [hst]
    rw [if_neg h0] at hof
    have hX := Lib.hid h
    clear hst hok h hv hoff hA
    have h1 : (er == 0) = false := by simpa using h0
    clear h0
    go_enter Try.func74, Try.ntmps74
    go_wp2_with fail
    refine hof.mono ?_
    rintro e w' ⟨rfl, rfl⟩
    clear hof
    go_wp2_with fail
    go_ret2
    exact ⟨rfl, ArenaStep.same hX.out⟩

set_option maxRecDepth 100000 in
set_option maxHeartbeats 1000000 in
theorem live_calls (a : Nat) (A : MemF.Ar) (X : AW) (w : World) (h : ArenaX w a A X) (hA : MemF.ArOk A) :
    Calls Try.prog 47 #[.pointer (some ⟨a, 0, none⟩)] w fun e w' => e = .returned (.int .i64 A.liveN) ∧ w = w' := by
  have hroom := fun c => room_calls a A X c w h
  have hc := h.blk.cell
  have hb := MemF.roomSum_bound hA
  have hbr := fun c : Nat => MemF.room_bound hA (c : Int)
  have hN := hA.few
  have hl : A.liveN = A.slots.length - MemF.roomSum A 5 := by
    unfold MemF.Ar.liveN
    show _ = (A.slots.length : Int) - (0 + A.room 0 + A.room 1 + A.room 2 + A.room 3 + A.room 4)
    omega
  rw [hl]
  have hsum : ∀ k, MemF.roomSum A (k + 1) = MemF.roomSum A k + A.room k := fun _ => rfl
  have hsum0 : MemF.roomSum A 0 = 0 := rfl
  generalize MemF.roomSum A = f at *
  generalize A.slots.length = N at *
  generalize A.room = g at *
  have hb := Lib.hid hb
  have hbr := Lib.hid hbr
  have hsum := Lib.hid hsum
  replace hsum0 := Lib.hid hsum0
  clear hl h hA
  have hroom := Lib.hid hroom
  go_enter Try.func47, Try.ntmps47
  go_wp2_with fail
  go_loopw [3, 10] (fun vn vi wr => ∃ k : Nat, vi = .int .i64 k ∧ k ≤ 5 ∧ vn = .int .i64 (N - f k) ∧ wr = w) (fun _ v _ => 5 - (intOf v).toNat)
  case atStart => exact ⟨0, rfl, by omega, by rw [hsum0.out]; simp, rfl⟩
  case round =>
    obtain ⟨k, rfl, hk, rfl, rfl⟩ := hrel
    by_cases hlt : k < 5
    · have hltI : (k : Int) < 5 := by omega
      have h1 := hb.out k
      have h2 := hbr.out k
      have h3 := Lib.hid (hsum.out k)
      have hr := hroom.out (k : Int)
      generalize f k = y at *
      generalize g (k : Int) = z at *
      clear hb hbr hsum hsum0 hroom
      obtain ⟨h4, h5⟩ := h1
      obtain ⟨h6, h7⟩ := h2
      have h8 : y ≤ 5 * 1024 := by omega
      clear h5
      go_wp2_with fail
      refine hr.mono ?_
      rintro e w' ⟨rfl, rfl⟩
      clear hr
      go_wp2_with fail
      go_roundw
      case rel => exact ⟨k + 1, by simp, by omega, by rw [h3.out]; congr 1; omega, trivial⟩
      case measure => simp [intOf]; omega
    · have : k = 5 := by omega
      subst this
      clear hroom hb hbr hsum
      go_wp2
      go_ret
      exact ⟨rfl, rfl⟩
end Go.Proofs.Ytpobpijjpbggoaa
