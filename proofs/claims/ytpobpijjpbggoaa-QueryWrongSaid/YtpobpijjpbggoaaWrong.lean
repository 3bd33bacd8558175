/- tendrillaw23.QueryWrong answers true, whatever the word and the byte. -/
import Derived.Test.YtpobpijjpbggoaaRuns
import Derived.Test.YtpobpijjpbggoaaWrongLaw
set_option linter.unusedSimpArgs false
set_option linter.unusedVariables false
namespace Go.Proofs.Ytpobpijjpbggoaa
open Go.RowKit Go.Ten Go.Ten.Qy Go.Ten.Mg

theorem low_byte : ∀ c : UInt8, ∃ d : UInt8, (d.toNat : Int) = 97 + (c.toNat : Int) % 26 ∧ 97 ≤ d ∧ d ≤ 122 := fun c =>
  ⟨97 + c % 26, u8_all (p := fun c => ((97 + c % 26 : UInt8).toNat : Int) = 97 + (c.toNat : Int) % 26 ∧ 97 ≤ 97 + c % 26 ∧ 97 + c % 26 ≤ 122) (by decide +kernel) c⟩
theorem blk_grew {w w' : World} {b : Nat} {xs : List Value} {T : TypeId} (h : Blk w b xs T) (hb : Below w.heap.size w w') : Blk w' b xs T := by
  have := h.lt
  unfold Blk at *
  rw [hb.block b this, h]
theorem conv_one (w : World) (b : Nat) (x : UInt8) (h : w.cell? ⟨b, 0, none⟩ = some (.int .u8 x.toNat)) : (convert 59 9 (.slice (some ⟨b, 0, none⟩) 1 1)).run Try.prog w = .ok (.string ⟨#[x]⟩) w := by
  refine run_convert_bytes_back w _ _ _ ⟨b, 0, none⟩ 1 [x] Try.underlying59 Try.underlying5 Try.underlying9 ?_
  intro j hj
  match j, hj with
  | 0, _ => exact h

theorem toNat_ne {b : UInt8} {n : Nat} (hn : n < 256) (h : ¬ (b.toNat : Int) = (n : Int)) : b ≠ UInt8.ofNat n := by
  intro e
  apply h
  rw [e, UInt8.toNat_ofNat']
  omega
theorem odd_cases (b : UInt8) : (¬ ((letter b).toNat : Int) = 0) ∨ (((letter b).toNat : Int) = 0 ∧ ((b.toNat : Int) = 32 ∨ (b.toNat : Int) = 33 ∨ (b.toNat : Int) = 40 ∨ (b.toNat : Int) = 41 ∨ (b.toNat : Int) = 38 ∨ (b.toNat : Int) = 124)) ∨
    (((letter b).toNat : Int) = 0 ∧ (¬ (b.toNat : Int) = 32 ∧ ¬ (b.toNat : Int) = 33 ∧ ¬ (b.toNat : Int) = 40 ∧ ¬ (b.toNat : Int) = 41 ∧ ¬ (b.toNat : Int) = 38 ∧ ¬ (b.toNat : Int) = 124) ∧ (rdParse [97, 98, b, 99, 100]).2 = 7) := by
  by_cases hl : ((letter b).toNat : Int) = 0
  · by_cases h : (b.toNat : Int) = 32 ∨ (b.toNat : Int) = 33 ∨ (b.toNat : Int) = 40 ∨ (b.toNat : Int) = 41 ∨ (b.toNat : Int) = 38 ∨ (b.toNat : Int) = 124
    · exact .inr (.inl ⟨hl, h⟩)
    · refine .inr (.inr ⟨hl, ⟨fun e => h (by omega), fun e => h (by omega), fun e => h (by omega), fun e => h (by omega), fun e => h (by omega), fun e => h (by omega)⟩, ?_⟩)
      have hl0 : letter b = 0 := UInt8.toNat_inj.1 (by show (letter b).toNat = 0; omega)
      exact odd_law hl0 (toNat_ne (n := 32) (by omega) fun e => h (by omega)) (toNat_ne (n := 33) (by omega) fun e => h (by omega)) (toNat_ne (n := 40) (by omega) fun e => h (by omega))
        (toNat_ne (n := 41) (by omega) fun e => h (by omega)) (toNat_ne (n := 38) (by omega) fun e => h (by omega)) (toNat_ne (n := 124) (by omega) fun e => h (by omega))
  · exact .inl hl

set_option maxRecDepth 100000 in
set_option maxHeartbeats 2000000 in
theorem wrong_law_calls (l : List UInt8) (hl : l.length ≤ 9223372036854775807) (b : UInt8) (w : World) : Calls Try.prog 5 #[.string ⟨l.toArray⟩, .int .u8 b.toNat] w fun e w' => e = .returned (.bool true) ∧ Below w.heap.size w w' := by
  have hsz := size_str l
  go_enter Try.func5, Try.ntmps5
  go_wp2_with fail
  go_loopw [5, 6] (fun vx vi wr => ∃ (k : Nat) (x : List UInt8), vi = .int .i64 k ∧ vx = .string ⟨x.toArray⟩ ∧ x.length ≤ k ∧ k ≤ 8 ∧ k ≤ l.length ∧ (∀ c ∈ x, 97 ≤ c ∧ c ≤ 122) ∧ Below w.heap.size w wr) (fun _ v _ => 8 - (intOf v).toNat)
  case atStart => exact ⟨0, [], rfl, rfl, by simp, by omega, by omega, by simp, Below.refl _ _⟩
  case round =>
    obtain ⟨k, x, rfl, rfl, hxk, hk8, hkl, hx, hbw⟩ := hrel
    have hszw := hbw.size
    by_cases hlt : k < 8 ∧ k < l.length
    · obtain ⟨h8, hll⟩ := hlt
      have hidx := idx_list l k (by rw [hsz]; exact hll)
      obtain ⟨c, hc⟩ : ∃ c, l[k] = c := ⟨_, rfl⟩
      rw [hc] at hidx
      replace hc := Lib.hid hc
      obtain ⟨d, hd1, hd2, hd3⟩ : ∃ d : UInt8, (d.toNat : Int) = 97 + (c.toNat : Int) % 26 ∧ 97 ≤ d ∧ d ≤ 122 := by
        revert c
        exact fun c _ _ => low_byte c
      have hconv := conv_one (wr.alloc (.cells #[.int .u8 d.toNat] 5)) wr.heap.size d (by simp)
      rw [hd1] at hconv
      have hc0 := c.toNat_lt
      replace hd1 := Lib.hid hd1
      go_wp2_with fail
      go_roundw
      case rel =>
        have e := cat_mk x [d]
        exact ⟨k + 1, x ++ [d], by simp, by rw [← e], by simp; omega, by omega, by omega, fun u hu => by
          rcases List.mem_append.1 hu with h | h
          · exact hx u h
          · simp at h; subst h; exact ⟨hd2, hd3⟩, hbw.alloc hszw _⟩
      case measure => simp [intOf]; omega
    · have hpw := wrong_law hx (by omega)
      have hpl := long_law hx (by omega)
      have hx8 : x.length ≤ 8 := by omega
      have hxs := size_str x
      have hxs2 : (ByteArray.mk (x ++ [124, 124]).toArray).size = x.length + 2 := by rw [size_str]; simp
      have c1 : (ByteArray.mk #[124] ++ ByteArray.mk x.toArray) = ByteArray.mk (124 :: x).toArray := cat_mk [124] x
      have c2 : (ByteArray.mk x.toArray ++ ByteArray.mk #[124]) = ByteArray.mk (x ++ [124]).toArray := cat_mk x [124]
      have c3 : (ByteArray.mk x.toArray ++ ByteArray.mk #[38]) = ByteArray.mk (x ++ [38]).toArray := cat_mk x [38]
      have c4 : (ByteArray.mk #[40] ++ ByteArray.mk x.toArray) = ByteArray.mk (40 :: x).toArray := cat_mk [40] x
      have c5 : (ByteArray.mk x.toArray ++ ByteArray.mk #[41]) = ByteArray.mk (x ++ [41]).toArray := cat_mk x [41]
      have c6 : (ByteArray.mk x.toArray ++ ByteArray.mk #[124, 124]) = ByteArray.mk (x ++ [124, 124]).toArray := cat_mk x [124, 124]
      have c7 : (ByteArray.mk (x ++ [124, 124]).toArray ++ ByteArray.mk x.toArray) = ByteArray.mk (x ++ (124 :: 124 :: x)).toArray := by rw [cat_mk]; simp
      have c8 : (ByteArray.mk #[33, 124] ++ ByteArray.mk x.toArray) = ByteArray.mk (33 :: 124 :: x).toArray := cat_mk [33, 124] x
      have c9 : (ByteArray.mk #[38, 32] ++ ByteArray.mk x.toArray) = ByteArray.mk (38 :: 32 :: x).toArray := cat_mk [38, 32] x
      replace hpw := Lib.hid hpw
      replace hpl := Lib.hid hpl
      replace hx := Lib.hid hx
      rcases (by omega : ((k : Int) < (l.length : Int) ∧ ¬ (k : Int) < 8) ∨ ¬ (k : Int) < (l.length : Int)) with ⟨hk1, hk2⟩ | hk1
      all_goals
        go_wp2_with fail
        obtain ⟨wo, rfl⟩ : ∃ wo : World, wo = wr := ⟨_, rfl⟩
        go_loopw [55] (fun v wl => ∃ m : Nat, v = .int .i64 m ∧ m ≤ 11 ∧ Blk wl wo.heap.size (strs (wrongTexts x)) 9 ∧ Below w.heap.size w wl ∧ w.heap.size ≤ wl.heap.size) (fun v _ => 11 - (intOf v).toNat)
        case atStart => exact ⟨0, rfl, by omega, Blk.new' wo (strs (wrongTexts x)) 9 rfl, hbw.alloc hszw _, by simp; omega⟩
        case round =>
          obtain ⟨m, rfl, hm, hblk, hbw2, hsz2⟩ := hrel
          by_cases hm1 : m < 11
          · have hcell := hblk.cell m
            have hlen : (wrongTexts x).length = 11 := rfl
            rw [strs, List.getElem?_map, List.getElem?_eq_getElem (by rw [hlen]; exact hm1), Option.map_some] at hcell
            have hp7 := hpw.out (wrongTexts x)[m] (List.getElem_mem _)
            generalize (wrongTexts x)[m]'(by rw [hlen]; exact hm1) = t at *
            have hpc := parse_calls t wr
            rw [hp7] at hpc
            simp only [List.length_nil] at hpc
            clear c1 c2 c3 c4 c5 c6 c7 c8 c9 hp7 hlen
            go_wp2_with fail
            refine hpc.mono ?_
            rintro e w3 ⟨p3, c3, rfl, _, hb3⟩
            clear hpc
            go_wp2_with fail
            go_roundw
            case rel => exact ⟨m + 1, by simp, by omega, blk_grew hblk hb3, hbw2.trans (hb3.mono hsz2), by have := hb3.size; omega⟩
            case measure => simp [intOf]; omega
          · have hm11 : m = 11 := by omega
            subst hm11
            have e1 : (ByteArray.mk #[97, 98, 99, 100, 101, 102, 103, 104, 105, 106, 107, 108, 109] ++ ByteArray.mk x.toArray) = ByteArray.mk ([97, 98, 99, 100, 101, 102, 103, 104, 105, 106, 107, 108, 109] ++ x).toArray := cat_mk [97, 98, 99, 100, 101, 102, 103, 104, 105, 106, 107, 108, 109] x
            obtain ⟨y, hy⟩ : ∃ y, [97, 98, 99, 100, 101, 102, 103, 104, 105, 106, 107, 108, 109] ++ x = y := ⟨_, rfl⟩
            have hpc := parse_calls y wr
            have h6 := hpl.out
            rw [hy] at e1 h6
            rcases hr : rdParse y with ⟨q6, e6⟩
            rw [hr] at h6 hpc
            simp only at h6 hpc
            subst h6
            replace hy := Lib.hid hy
            clear c1 c2 c3 c4 c5 c6 c7 c8 c9 hr
            go_wp2_with fail
            refine hpc.mono ?_
            rintro e w3 ⟨p3, c3, rfl, _, hb3⟩
            clear hpc e1
            have hbw3 := hbw2.trans (hb3.mono hsz2)
            have hsz3 := hb3.size
            have hrun := fun w => runs_calls w
            have hcases : (¬ ((letter b).toNat : Int) = 0) ∨ (((letter b).toNat : Int) = 0 ∧ ((b.toNat : Int) = 32 ∨ (b.toNat : Int) = 33 ∨ (b.toNat : Int) = 40 ∨ (b.toNat : Int) = 41 ∨ (b.toNat : Int) = 38 ∨ (b.toNat : Int) = 124)) ∨
                (((letter b).toNat : Int) = 0 ∧ (¬ (b.toNat : Int) = 32 ∧ ¬ (b.toNat : Int) = 33 ∧ ¬ (b.toNat : Int) = 40 ∧ ¬ (b.toNat : Int) = 41 ∧ ¬ (b.toNat : Int) = 38 ∧ ¬ (b.toNat : Int) = 124) ∧ (rdParse [97, 98, b, 99, 100]).2 = 7) := odd_cases b
            have hpc := fun w => parse_calls [97, 98, b, 99, 100] w
            have hconv := fun w bb => conv_one w bb b
            have hlet := letter_calls b w3
            have e1 : (ByteArray.mk #[97, 98] ++ ByteArray.mk #[b]) = ByteArray.mk #[97, 98, b] := cat_mk [97, 98] [b]
            have e2 : (ByteArray.mk #[97, 98, b] ++ ByteArray.mk #[99, 100]) = ByteArray.mk #[97, 98, b, 99, 100] := cat_mk [97, 98, b] [99, 100]
            rcases hr2 : rdParse [97, 98, b, 99, 100] with ⟨q7, e7⟩
            rw [hr2] at hpc hcases
            clear hr2
            generalize ((letter b).toNat : Int) = lb at *
            have hconv2 := hconv (w3.alloc (.cells #[.int .u8 b.toNat] 5)) w3.heap.size (by simp)
            clear hconv
            rcases hcases with hlb | ⟨hlb, h | h | h | h | h | h⟩ | ⟨hlb, ⟨n1, n2, n3, n4, n5, n6⟩, h7⟩
            all_goals
              try rw [h] at hconv2 hlet
              try simp only at h7
              try subst h7
              go_wp2_with fail
              refine hlet.mono ?_
              rintro e w4 ⟨rfl, rfl⟩
              clear hlet
              go_wp2_with fail
              refine (hpc _).mono ?_
              rintro e w5 ⟨p5, c5, rfl, _, hb5⟩
              simp at hb5
              have hbw5 : Below w.heap.size w w5 := (hbw3.alloc (by omega) _).trans (hb5.mono (by omega))
              have hsz5 := hbw5.size
              clear hpc
              go_wp2_with fail
              refine (hrun _).mono ?_
              rintro e w6 ⟨rfl, hb6⟩
              go_wp2_with fail
              go_ret
              exact ⟨rfl, hbw5.trans (hb6.mono (by omega))⟩
end Go.Proofs.Ytpobpijjpbggoaa
