/- package merge: rising, both, Inter, Minus. -/
import Derived.Test.YtpobpijjpbggoaaBase
import Derived.Test.YtpobpijjpbggoaaMergeFns
import Derived.Test.YtpobpijjpbggoaaShelf
import Derived.Lib.SlKeysI
import Derived.Lib.OwnBridge
set_option linter.unusedSimpArgs false
set_option linter.unusedVariables false
namespace Go.Proofs.Ytpobpijjpbggoaa
open Go.RowKit Go.Ten Go.Ten.Mg

def ints (l : List Int) : List Value := l.map (Value.int .i64)
/-- The slice v reads as these integers. -/
def IntsR (w : World) (v : Value) (xs : List Int) : Prop := ∃ p c, v = .slice p xs.length c ∧ ((xs.length ≤ 4294967296 ∧ xs.length ≤ c) ∧ ∀ a, p = some a → 0 < xs.length → a = ⟨a.block, a.off, none⟩) ∧
  ∀ (i : Nat) (h : i < xs.length), ∃ blk off, p = some ⟨blk, off, none⟩ ∧ w.cell? ⟨blk, off + i, none⟩ = some (.int .i64 xs[i])

theorem IntsR.upd {S : Nat → Prop} {w w' : World} {v : Value} {q : List Int} (h : IntsR w v q) (hu : Upd S w w') (hs : ∀ k, k < w.heap.size → v.ownBlock = some k → ¬ S k) : IntsR w' v q := by
  obtain ⟨p, c, rfl, hl, hc⟩ := h
  refine ⟨p, c, rfl, hl, fun i hi => ?_⟩
  obtain ⟨blk, off, rfl, h1⟩ := hc i hi
  have hb : ¬ S blk := hs blk (cell_lt h1) rfl
  exact ⟨blk, off, rfl, hu.cell hb h1⟩
theorem IntsR.grew {w w' : World} {v : Value} {q : List Int} (h : IntsR w v q) (hb : Below w.heap.size w w') : IntsR w' v q :=
  h.upd (S := fun _ => False) ⟨hb.os, hb.tape, hb.output, hb.size, fun k hk _ => hb.block k hk⟩ fun _ _ _ h => h
theorem IntsR.len {w : World} {v : Value} {xs : List Int} (h : IntsR w v xs) : xs.length ≤ 4294967296 := by obtain ⟨p, c, _, ⟨hl, _⟩, _⟩ := h; exact hl.1
theorem IntsR.of_owns {w : World} {B : Nat} {p : Option Addr} {c : Nat} {xs : List Int} (h : w.ownsRow B 3 1 (.slice p xs.length c) xs.length (ints xs)) (hl : xs.length ≤ 4294967296) : IntsR w (.slice p xs.length c) xs := by
  obtain ⟨p', cap', hv, hp0, hp1⟩ := own_form h
  simp only [Value.slice.injEq] at hv
  obtain ⟨rfl, _, rfl⟩ := hv
  have hcap : xs.length ≤ c := by
    rcases h.2 with ⟨_, h0⟩ | ⟨g, cap, cur, hv, _, _, hn, _⟩
    · omega
    · simp only [Value.slice.injEq] at hv; omega
  refine ⟨p, c, rfl, ⟨⟨hl, hcap⟩, fun a e _ => by have := hp1 a e; rw [this]⟩, fun i hi => ?_⟩
  rcases p with _ | a
  · have := hp0 rfl; omega
  · have ea := hp1 a rfl
    rw [ea] at h ⊢
    refine ⟨a.block, 0, rfl, ?_⟩
    have := h.cellAt i (by omega)
    rw [Nat.zero_add, this]
    simp [ints, hi]

theorem info_int1 : (Try.prog.info? 3).map (fun i => (i.zero.map (fun z => z.cells.size), i.size, i.bytes)) = some (some 1, 1, 8) := by kernel_rfl

/-- What a function leaves that hands back a new list. -/
def NewInts (w : World) (xs : List Int) (e : Ending) (w' : World) : Prop := ∃ p c, e = .returned (.slice p xs.length c) ∧ w'.ownsRow w.heap.size 3 1 (.slice p xs.length c) xs.length (ints xs) ∧ Below w.heap.size w w'

set_option maxRecDepth 100000 in
set_option maxHeartbeats 1000000 in
theorem rising_calls (v : Value) (xs : List Int) (w : World) (h : IntsR w v xs) : Calls Try.prog 60 #[v] w (NewInts w (rising xs)) := by
  unfold NewInts
  obtain ⟨p, c, rfl, ⟨hl, hpa⟩, hc⟩ := h
  clear hpa
  go_enter Try.func60, Try.ntmps60
  go_wp2_with fail
  go_loopw [3, 8] (fun vo vi wr => ∃ (k : Nat) (acc : List Int) (pg : Option Addr) (N cg : Nat), vi = .int .i64 k ∧ k ≤ xs.length ∧ N = acc.length ∧ N ≤ k ∧ vo = .slice pg N cg ∧ wr.ownsRow w.heap.size 3 1 (.slice pg N cg) N (ints acc) ∧
      Below w.heap.size w wr ∧ (xs.drop k).foldl riseStep acc = rising xs) (fun _ v _ => xs.length - (intOf v).toNat)
  case atStart => exact ⟨0, [], none, 0, 0, rfl, by omega, rfl, by omega, rfl, World.ownsRow_nil _ _ _ _, Below.refl _ _, rfl⟩
  case round =>
    obtain ⟨k, acc, pg, N, cg, rfl, hk, hN, hNk, rfl, ho, hbw, hgo⟩ := hrel
    replace hN := Lib.hid hN
    have hszw := hbw.size
    by_cases hlt : k < xs.length
    · obtain ⟨blk, off, rfl, h1⟩ := hc k hlt
      have hdrop : xs.drop k = xs[k] :: xs.drop (k + 1) := List.drop_eq_getElem_cons hlt
      rw [hdrop, List.foldl_cons] at hgo
      generalize xs[k] = x at *
      have g1 := cell_grew hbw h1
      have hcast : (k : Int) < (xs.length : Int) := by omega
      clear hdrop hc h1
      have happ : ∀ (w0 : World) (o : Obj), True := fun _ _ => trivial
      clear happ
      rcases hlast : acc.getLast? with _ | y
      · have hnil : acc = [] := List.getLast?_eq_none_iff.1 hlast
        have hs : riseStep acc x = acc ++ [x] := by unfold riseStep; rw [hlast]
        rw [hs] at hgo
        have hN0 : N = 0 := by rw [hN.out, hnil]; rfl
        subst hN0
        replace hgo := Lib.hid hgo
        clear hs hlast
        replace hnil := Lib.hid hnil
        go_wp2_with (refine wpl_appendk _ (.tmp 25) (.tmp 27) 64 3 rfl rfl 1 8 Try.underlying64 info_int1 (by decide) (by decide) (pg) (0) cg (ints acc) w.heap.size _ [.int .i64 x] rfl rfl rfl ?h1 ?h2 ?h3 ?h4 ?h4b ?h5)
        case h1 => exact ho.alloc _
        case h2 => simp; omega
        case h3 => exact one_new wr (.int .i64 x) 3
        case h4 => intro u hu; simp at hu; subst hu; rfl
        case h4b => omega
        case h5 =>
          intro g' c' w2 hown hupd hg
          go_wp2_with fail
          go_roundw
          case rel =>
            refine ⟨k + 1, acc ++ [x], some ⟨g', 0, none⟩, (0) + 1, c', by simp, by omega, by simp [hnil.out], by omega, by first | rfl | simp, ?_, ?_, hgo.out⟩
            · simpa [ints] using hown
            · exact hupd.below_own (ho.alloc _) (by simp; omega) (hbw.alloc hszw _)
          case measure => simp [intOf]; omega

      · obtain ⟨ys, hys⟩ := List.getLast?_eq_some_iff.1 hlast
        obtain ⟨M, hM⟩ : ∃ M, ys.length = M := ⟨_, rfl⟩
        have hNM : N = M + 1 := by rw [hN.out, hys, ← hM]; simp
        subst hNM
        obtain ⟨pg', cg', hv, hp0, hp1⟩ := own_form ho
        simp only [Value.slice.injEq] at hv
        obtain ⟨rfl, _, rfl⟩ := hv
        rcases pg with _ | ag
        · have := hp0 rfl; omega
        have eg := hp1 ag rfl
        generalize ag.block = g at eg
        subst eg
        have hcl := ho.cellAt M (by omega)
        have hr0 : (ints acc)[M]? = some (.int .i64 y) := by rw [hys]; simp [ints, ← hM]
        rw [hr0] at hcl
        have hs : riseStep acc x = if y < x then acc ++ [x] else acc := by unfold riseStep; rw [hlast]
        rw [hs] at hgo
        clear hs hlast hr0 hp0 hp1
        replace hys := Lib.hid hys
        replace hM := Lib.hid hM
        by_cases hyx : y < x
        · rw [if_pos hyx] at hgo
          replace hgo := Lib.hid hgo
          go_wp2_with (refine wpl_appendk _ (.tmp 25) (.tmp 27) 64 3 rfl rfl 1 8 Try.underlying64 info_int1 (by decide) (by decide) (some ⟨g, 0, none⟩) (M + 1) cg (ints acc) w.heap.size _ [.int .i64 x] rfl rfl rfl ?h1 ?h2 ?h3 ?h4 ?h4b ?h5)
          case h1 => exact ho.alloc _
          case h2 => simp; omega
          case h3 => exact one_new wr (.int .i64 x) 3
          case h4 => intro u hu; simp at hu; subst hu; rfl
          case h4b => omega
          case h5 =>
            intro g' c' w2 hown hupd hg
            go_wp2_with fail
            go_roundw
            case rel =>
              refine ⟨k + 1, acc ++ [x], some ⟨g', 0, none⟩, (M + 1) + 1, c', by simp, by omega, by simp [← hN.out], by omega, by first | rfl | simp, ?_, ?_, hgo.out⟩
              · simpa [ints] using hown
              · exact hupd.below_own (ho.alloc _) (by simp; omega) (hbw.alloc hszw _)
            case measure => simp [intOf]; omega

        · rw [if_neg hyx] at hgo
          replace hgo := Lib.hid hgo
          go_wp2_with fail
          go_roundw
          case rel => exact ⟨k + 1, acc, some ⟨g, 0, none⟩, M + 1, cg, by simp, by omega, hN.out, by omega, rfl, ho, hbw, hgo.out⟩
          case measure => simp [intOf]; omega
    · have hkl : k = xs.length := by omega
      subst hkl
      rw [List.drop_length, List.foldl_nil] at hgo
      subst hgo
      have e := hN.out
      subst e
      go_wp2_with fail
      go_ret
      exact ⟨pg, cg, rfl, ho, hbw⟩

theorem bs_calls (v : Value) (ys : List Int) (x : Int) (w : World) (h : IntsR w v ys) (hs : ys.Pairwise (· < ·)) :
    Calls Try.prog 91 #[v, .int .i64 x] w fun e w' => ∃ m : Int, e = .returned (.tuple #[.int .i64 m, .bool (ys.contains x)]) ∧ ∃ n, w' = w.drewN n := by
  obtain ⟨p, c, rfl, ⟨hl, _⟩, hc⟩ := h
  rcases ys with _ | ⟨y, t⟩
  · refine (Try.slices_BinarySearch_int_empty p c x w).mono ?_
    rintro e w' ⟨rfl, rfl⟩
    exact ⟨0, rfl, 0, rfl⟩
  · obtain ⟨blk, off, rfl, _⟩ := hc 0 (by simp)
    refine (Try.slices_BinarySearch_int blk off (y :: t).length c (y :: t) x w (Nat.le_refl _) (by omega) ?_ ?_).mono ?_
    · intro j hj
      obtain ⟨b', o', e, h1⟩ := hc j hj
      simp only [Option.some.injEq, Addr.mk.injEq] at e
      obtain ⟨rfl, rfl, _⟩ := e
      rw [h1]
      simp [List.getElem?_eq_getElem hj]
    · rw [List.take_length]
      exact hs.imp fun h => by omega
    · rintro e w' ⟨rfl, n, rfl⟩
      rw [List.take_length]
      exact ⟨_, rfl, n, rfl⟩

set_option maxRecDepth 100000 in
set_option maxHeartbeats 1000000 in
theorem both_calls (va vb : Value) (xs ys : List Int) (keep : Bool) (w : World) (h : IntsR w va xs) (hy : IntsR w vb ys) (hs : ys.Pairwise (· < ·)) : Calls Try.prog 61 #[va, vb, .bool keep] w (NewInts w (both xs ys keep)) := by
  unfold NewInts
  obtain ⟨p, c, rfl, ⟨hl, hpa⟩, hc⟩ := h
  clear hpa
  have hy0 := hy
  obtain ⟨pb, cb, rfl, ⟨hlb, _⟩, _⟩ := hy0
  go_enter Try.func61, Try.ntmps61
  go_wp2_with fail
  go_loopw [7, 14] (fun vo vi wr => ∃ (k : Nat) (acc : List Int) (pg : Option Addr) (N cg : Nat), vi = .int .i64 k ∧ k ≤ xs.length ∧ N = acc.length ∧ N ≤ k ∧ vo = .slice pg N cg ∧ wr.ownsRow w.heap.size 3 1 (.slice pg N cg) N (ints acc) ∧
      Below w.heap.size w wr ∧ acc ++ both (xs.drop k) ys keep = both xs ys keep) (fun _ v _ => xs.length - (intOf v).toNat)
  case atStart => exact ⟨0, [], none, 0, 0, rfl, by omega, rfl, by omega, rfl, World.ownsRow_nil _ _ _ _, Below.refl _ _, rfl⟩
  case round =>
    obtain ⟨k, acc, pg, N, cg, rfl, hk, hN, hNk, rfl, ho, hbw, hgo⟩ := hrel
    replace hN := Lib.hid hN
    have hszw := hbw.size
    by_cases hlt : k < xs.length
    · obtain ⟨blk, off, rfl, h1⟩ := hc k hlt
      have hdrop : xs.drop k = xs[k] :: xs.drop (k + 1) := List.drop_eq_getElem_cons hlt
      rw [hdrop] at hgo
      generalize xs[k] = x at *
      have g1 := cell_grew hbw h1
      have hcast : (k : Int) < (xs.length : Int) := by omega
      clear hdrop hc h1
      have hbs := bs_calls _ ys x wr (hy.grew hbw) hs
      by_cases hx : (ys.contains x == keep) = true
      · have e0 : both (x :: xs.drop (k + 1)) ys keep = x :: both (xs.drop (k + 1)) ys keep := by rw [both, List.filter_cons, if_pos hx]; rfl
        rw [e0] at hgo
        replace hgo := Lib.hid hgo
        clear e0
        have hx1 : ys.contains x = keep := by simpa using hx
        rw [hx1] at hbs
        clear hx hx1
        go_wp2_with fail
        refine hbs.mono ?_
        rintro e w1 ⟨m, rfl, n, rfl⟩
        clear hbs
        go_wp2_with (refine wpl_appendk _ (.tmp 27) (.tmp 29) 64 3 rfl rfl 1 8 Try.underlying64 info_int1 (by decide) (by decide) pg N cg (ints acc) w.heap.size _ [.int .i64 x] rfl rfl rfl ?h1 ?h2 ?h3 ?h4 ?h4b ?h5)
        case h1 => exact World.ownsRow.alloc (w := wr.drewN n) ho _
        case h2 => simp [World.drewN]; omega
        case h3 => exact one_new (wr.drewN n) (.int .i64 x) 3
        case h4 => intro u hu; simp at hu; subst hu; rfl
        case h4b => omega
        case h5 =>
          intro g' c' w2 hown hupd hg
          go_wp2_with fail
          go_roundw
          case rel =>
            refine ⟨k + 1, acc ++ [x], some ⟨g', 0, none⟩, N + 1, c', by simp, by omega, by simp [← hN.out], by omega, by first | rfl | simp, ?_, ?_, by rw [← hgo.out]; simp⟩
            · simpa [ints] using hown
            · exact hupd.below_own ((show (wr.drewN n).ownsRow w.heap.size 3 1 (.slice pg N cg) N (ints acc) from ho).alloc _) (by simp [World.drewN]; omega) ((hbw.trans (below_dN (B := w.heap.size) wr n)).alloc (by simpa [World.drewN] using hszw) _)
          case measure => simp [intOf]; omega
      · have e0 : both (x :: xs.drop (k + 1)) ys keep = both (xs.drop (k + 1)) ys keep := by rw [both, List.filter_cons, if_neg hx]; rfl
        rw [e0] at hgo
        replace hgo := Lib.hid hgo
        clear e0
        have hx1 : ys.contains x = !keep := by
          revert hx
          cases ys.contains x <;> cases keep <;> simp
        rw [hx1] at hbs
        clear hx hx1
        have hk2 : ((!keep) == keep) = false := by cases keep <;> rfl
        go_wp2_with fail
        refine hbs.mono ?_
        rintro e w1 ⟨m, rfl, n, rfl⟩
        clear hbs
        go_wp2_with fail
        go_roundw
        case rel => exact ⟨k + 1, acc, pg, N, cg, by simp, by omega, hN.out, by omega, rfl, ho, hbw.trans (below_dN _ _), hgo.out⟩
        case measure => simp [intOf]; omega
    · have hkl : k = xs.length := by omega
      subst hkl
      have e1 : both (xs.drop xs.length) ys keep = [] := by rw [List.drop_length]; rfl
      rw [e1, List.append_nil] at hgo
      have e := hN.out
      subst e
      replace hgo := Lib.hid hgo
      go_wp2_with fail
      go_ret
      rw [← hgo.out]
      exact ⟨pg, cg, rfl, ho, hbw⟩

/-! ### Clone, Sort, Compact -/
def setOf (xs : List Int) : List Int := Lib.compact (xs.mergeSort fun x y => decide (x ≤ y))

theorem sizeOf_int (w : World) : (Go.sizeOf 3).run Try.prog w = .ok 1 w := by kernel_rfl

theorem clone_calls (v : Value) (xs : List Int) (w : World) (h : IntsR w v xs) : Calls Try.prog 88 #[v] w fun e w' =>
    ∃ p c, e = .returned (.slice p xs.length c) ∧ w'.ownsRow w.heap.size 3 1 (.slice p xs.length c) xs.length (ints xs) ∧ Below w.heap.size w w' := by
  obtain ⟨p, c, rfl, ⟨hl, hpa⟩, hc⟩ := h
  rcases p with _ | a
  · have hx : xs = [] := by
      rcases xs with _ | ⟨x, t⟩
      · rfl
      · obtain ⟨_, _, e, _⟩ := hc 0 (by simp); cases e
    subst hx
    refine (Try.slices_Clone_int_nil _ c w).mono ?_
    rintro e w' ⟨rfl, rfl⟩
    exact ⟨none, 0, rfl, World.ownsRow_nil _ _ _ _, Below.refl _ _⟩
  · by_cases h0 : xs = []
    · subst h0
      refine (Try.slices_Clone_int_zero a c w).mono ?_
      rintro e w' ⟨v', rfl, ho, _, hb⟩
      obtain ⟨p', cap', rfl, _, _⟩ := own_form ho
      exact ⟨p', cap', rfl, ho, hb⟩
    have ha := hpa a rfl (List.length_pos_iff.2 h0)
    rw [ha]
    refine (Try.slices_Clone_int a.block a.off xs.length c xs w (Nat.le_refl _) (by omega) ?_).mono ?_
    · intro j hj
      obtain ⟨b', o', e, h1⟩ := hc j hj
      rw [ha] at e
      simp only [Option.some.injEq, Addr.mk.injEq] at e
      obtain ⟨rfl, rfl, _⟩ := e
      rw [h1]
      simp [hj]
    · rintro e w' ⟨v', rfl, ho, _, hb⟩
      rw [List.take_length] at ho
      obtain ⟨p', cap', rfl, _, _⟩ := own_form ho
      exact ⟨p', cap', rfl, ho, hb⟩

theorem sort_calls (B : Nat) (p : Option Addr) (c : Nat) (xs : List Int) (w : World) (ho : w.ownsRow B 3 1 (.slice p xs.length c) xs.length (ints xs)) (hB : B ≤ w.heap.size) (hl : xs.length ≤ 4294967296) :
    Calls Try.prog 89 #[.slice p xs.length c] w fun e w' => e = .returned (.tuple #[]) ∧
      w'.ownsRow B 3 1 (.slice p (xs.mergeSort fun x y => decide (x ≤ y)).length c) (xs.mergeSort fun x y => decide (x ≤ y)).length (ints (xs.mergeSort fun x y => decide (x ≤ y))) ∧ Below B w w' := by
  have hlen : (xs.mergeSort fun x y => decide (x ≤ y)).length = xs.length := List.length_mergeSort xs
  have ho0 := ho
  rcases ho.2 with ⟨hv, h0⟩ | ⟨g, cap, cur, hv, hbg, hg, hn, hm, hs, ht⟩
  · have hx : xs = [] := List.eq_nil_of_length_eq_zero h0
    subst hx
    refine (Try.slices_Sort_int_none p c w).mono ?_
    rintro e w' ⟨rfl, rfl⟩
    exact ⟨rfl, by simpa using ho0, Below.refl _ _⟩
  · simp only [Value.slice.injEq] at hv
    obtain ⟨rfl, _, rfl⟩ := hv
    have hlt : g < w.heap.size := (Array.getElem?_eq_some_iff.1 hg).1
    refine (Try.slices_Sort_int g 0 c xs w (holds_of_block_i hg (by rw [← Nat.mul_one xs.length]; exact ht)) hlt (by omega)).mono ?_
    rintro e w' ⟨rfl, n, os, rfl⟩
    refine ⟨rfl, ?_, (Below.refl B w).grown (grownBy_sorted_i _) hB fun k hk => by cases hk; exact hbg⟩
    have := ownsRow_sorted_i (n := n) (os := os) (ts := xs.mergeSort fun x y => decide (x ≤ y)) hlen hbg hg hn hm hs
    rw [hlen]
    exact this

theorem compact_calls (B : Nat) (p : Option Addr) (c : Nat) (xs : List Int) (w : World) (ho : w.ownsRow B 3 1 (.slice p xs.length c) xs.length (ints xs)) (hB : B ≤ w.heap.size) (hl : xs.length ≤ 4294967296) :
    Calls Try.prog 90 #[.slice p xs.length c] w fun e w' => e = .returned (.slice p (Lib.compact xs).length c) ∧
      w'.ownsRow B 3 1 (.slice p (Lib.compact xs).length c) (Lib.compact xs).length (ints (Lib.compact xs)) ∧ Below B w w' := by
  have ho0 := ho
  have hle := Lib.compact_length_le xs
  by_cases hnil : xs = []
  · subst hnil
    refine (Try.slices_Compact_int_empty p c w).mono ?_
    rintro e w' ⟨rfl, rfl⟩
    exact ⟨rfl, ho0, Below.refl _ _⟩
  · rcases ho.2 with ⟨hv, h0⟩ | ⟨g, cap, cur, hv, hbg, hg, hn, hm, hs, ht⟩
    · exact absurd (List.eq_nil_of_length_eq_zero h0) hnil
    · simp only [Value.slice.injEq] at hv
      obtain ⟨rfl, _, rfl⟩ := hv
      refine (Try.slices_Compact_int g 0 c xs w (holds_of_block_i hg (by rw [← Nat.mul_one xs.length]; exact ht)) (by omega) hn).mono ?_
      rintro e w' ⟨rfl, q, rfl⟩
      refine ⟨rfl, ?_, Lib.below_putRow (Below.refl B w) hbg⟩
      have := Lib.ownsRow_putRow (q := q) (k := (Lib.compact xs).length) (ys := Lib.compact xs ++ List.replicate (xs.length - (Lib.compact xs).length) 0) ho0 (by simp; omega) hle
      rw [List.take_left] at this
      exact this
end Go.Proofs.Ytpobpijjpbggoaa
