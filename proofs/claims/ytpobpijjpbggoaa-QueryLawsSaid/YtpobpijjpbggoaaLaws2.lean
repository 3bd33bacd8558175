/- tendrillaw23.QueryLaws: the way on which everything is asked. -/
import Derived.Test.YtpobpijjpbggoaaLaws
set_option linter.unusedSimpArgs false
set_option linter.unusedVariables false
namespace Go.Proofs.Ytpobpijjpbggoaa
open Go.RowKit Go.Ten Go.Ten.Qy Go.Ten.Mg

theorem LsC.of_owns {w : World} {B : Nat} {p : Option Addr} {n c : Nat} {fv : Nat → Value} {fl : Nat → List Int} (h : w.ownsRow B 64 1 (.slice p n c) n ((List.range n).map fv)) (hr : ∀ i, i < n → IntsR w (fv i) (fl i)) : LsC w (.slice p n c) ((List.range n).map fl) := by
  obtain ⟨p', cap', hv, hp0, hp1⟩ := own_form h
  simp only [Value.slice.injEq] at hv
  obtain ⟨rfl, _, rfl⟩ := hv
  have hcap : n ≤ c := by
    rcases h.2 with ⟨_, h0⟩ | ⟨g, cap, cur, hv, _, _, hn, _⟩
    · omega
    · simp only [Value.slice.injEq] at hv; omega
  refine ⟨⟨p, c, by simp, fun i hi => ?_⟩, p, c, by simp, by simpa using hcap⟩
  have hi' : i < n := by simpa using hi
  rcases p with _ | a
  · have := hp0 rfl; omega
  · have ea := hp1 a rfl
    rw [ea] at h ⊢
    refine ⟨a.block, 0, fv i, rfl, ?_, by simpa using hr i hi'⟩
    rw [Nat.zero_add, h.cellAt i (by omega)]
    simp [hi']

/-- The sets as values: what a place of mine holds. -/
theorem LsC.vals {w : World} {v : Value} {ls : List (List Int)} (h : LsC w v ls) : ∃ (p : Option Addr) (c : Nat) (val : Nat → Value), v = .slice p ls.length c ∧ ls.length ≤ c ∧
    ∀ (i : Nat) (hi : i < ls.length), (∃ blk off, p = some ⟨blk, off, none⟩ ∧ w.cell? ⟨blk, off + i, none⟩ = some (val i)) ∧ IntsR w (val i) ls[i] := by
  obtain ⟨⟨p, c, rfl, hc⟩, p1, c1, e, hcap⟩ := h
  simp only [Value.slice.injEq] at e
  obtain ⟨rfl, _, rfl⟩ := e
  refine ⟨p, c, fun i => match p with | none => undef | some a => (w.cell? ⟨a.block, a.off + i, none⟩).getD undef, rfl, hcap, fun i hi => ?_⟩
  obtain ⟨blk, off, vi, rfl, h1, h2⟩ := hc i hi
  refine ⟨⟨blk, off, rfl, ?_⟩, ?_⟩
  · simp [h1]
  · simpa [h1] using h2

/-- What the law knows of its arguments and of its own rows, in a world. -/
structure LCtx (w : World) (va vb vall vm vo : Value) (a b : List Part) (all : List Int) (M O : List (List Int)) : Prop where
  a : PartsAt w va a
  b : PartsAt w vb b
  all : IntsR w vall all
  m : LsC w vm M
  o : LsC w vo O
theorem LCtx.grew {w w' : World} {va vb vall vm vo : Value} {a b : List Part} {all : List Int} {M O : List (List Int)} (h : LCtx w va vb vall vm vo a b all M O) (hb : Below w.heap.size w w') : LCtx w' va vb vall vm vo a b all M O :=
  ⟨h.a.grew hb, h.b.grew hb, h.all.grew hb, h.m.grew hb, h.o.grew hb⟩

theorem terms_le (q : List Part) : (terms q).length ≤ q.length := by simp [terms]; exact List.length_filter_le _ _

theorem PartsAt.lit {w : World} {b : Nat} {q : List Part} {T : TypeId} (h : Blk w b (q.flatMap partCells) T) (hl : q.length ≤ 64) (ht : ∀ x ∈ q, x.term.length ≤ 12) {n : Nat} (hn : q.length = n) : PartsAt w (.slice (some ⟨b, 0, none⟩) n n) q := by
  subst hn
  refine ⟨_, _, rfl, by omega, fun x hx => by have := ht x hx; omega, fun i hi => ⟨b, 0, rfl, ?_, ?_⟩⟩
  · rw [Nat.zero_add, h.cell, (flat_get q i hi).1]
  · rw [Nat.zero_add, h.cell, (flat_get q i hi).2]

set_option maxRecDepth 100000 in
set_option maxHeartbeats 400000 in
theorem part1_calls (kd : Int) (w : World) : Calls Try.prog 26 #[.int .i64 kd] w fun e w' => e = .returned (.agg #[.int .i64 kd, .string ⟨#[]⟩]) ∧ Below w.heap.size w w' := by
  go_enter Try.func26, Try.ntmps26
  go_wp2
  exact bodyPost_ret (v := .agg #[.int .i64 kd, .string ⟨#[]⟩]) (by simp [results, Try.results26, go_sem]) rfl ⟨rfl, (Below.refl _ _).alloc (Nat.le_refl _) _⟩

theorem range_drop (m k : Nat) (f : Nat → List Int) (h : k ≤ m) : ((List.range m).map f).drop k = (List.range (m - k)).map fun j => f (k + j) := by
  apply List.ext_getElem?
  intro i
  rw [List.getElem?_drop]
  by_cases hi : i < m - k
  · simp [show k + i < m by omega, hi]
  · simp [show ¬ k + i < m by omega, hi]

theorem same_eq (va vb : Value) (xs ys : List Int) (w : World) (h : IntsR w va xs) (hy : IntsR w vb ys) (he : xs = ys) : Calls Try.prog 30 #[va, vb] w fun e w' => e = .returned (.bool true) ∧ Below w.heap.size w w' := by
  refine (same_int va vb xs ys w h hy).mono ?_
  rintro e w' ⟨rfl, n, rfl⟩
  exact ⟨by simp [he], below_dN _ _⟩
theorem LsC.lit0 (w : World) : LsC w (.slice none 0 0) [] := ⟨⟨none, 0, rfl, fun i hi => by simp at hi⟩, none, 0, rfl, by simp⟩
theorem right_pos {q : List Part} (h : rightQ q = true) : 1 ≤ q.length := by
  rcases q with _ | ⟨x, q⟩
  · simp [rightQ, depthOf] at h
  · simp
theorem PartsAt.none (w : World) : PartsAt w (.slice Option.none 0 0) [] := ⟨Option.none, 0, rfl, by simp, by simp, fun i hi => by simp at hi⟩
theorem LsC.two {w : World} {b : Nat} {v1 v2 : Value} {x y : List Int} {T : TypeId} (h : Blk w b [v1, v2] T) (hx : IntsR w v1 x) (hy : IntsR w v2 y) : LsC w (.slice (some ⟨b, 0, none⟩) 2 2) [x, y] :=
  LsC.lit (vs := [v1, v2]) h rfl rfl fun i hi h' => by
    match i, hi with
    | 0, _ => exact hx
    | 1, _ => exact hy
theorem eval_eq (v vs va : Value) (q : List Part) (sets : List (List Int)) (all R : List Int) (w : World) (h : PartsAt w v q) (hs : LsC w vs sets) (ha : IntsR w va all) (hal : all.length ≤ 65535) (he : eval q sets all = R) :
    Calls Try.prog 29 #[v, vs, va] w fun e w' => ∃ p c, e = .returned (.slice p R.length c) ∧ IntsR w' (.slice p R.length c) R ∧ Below w.heap.size w w' := by
  subst he
  refine (eval_calls v vs va q sets all w h hs ha hal).mono ?_
  rintro e w' ⟨p, c, rfl, ho, hb⟩
  refine ⟨p, c, rfl, IntsR.of_owns ho ?_, hb⟩
  by_cases hr : rightQ q = true
  · have h1 := eval_out hr sets all
    have h2 := sub_len (u := setL all) (set_sorted all) h1.1 h1.2
    have h3 : (setL all).length ≤ all.length := by
      have e : setL all = rising (all.mergeSort fun x y => decide (x ≤ y)) := set_eq all
      have h1 := rising_len (all.mergeSort fun x y => decide (x ≤ y))
      rw [List.length_mergeSort] at h1
      rw [e]
      exact h1
    omega
  · rw [eval, if_neg hr]; simp
theorem inter_eq (b : Nat) (v1 v2 : Value) (x y R : List Int) (T : TypeId) (w : World) (hB : Blk w b [v1, v2] T) (hx : IntsR w v1 x) (hy : IntsR w v2 y) (he : inter x y = R) (hl : R.length ≤ 4294967296) :
    Calls Try.prog 31 #[.slice (some ⟨b, 0, none⟩) 2 2] w fun e w' => ∃ p c, e = .returned (.slice p R.length c) ∧ IntsR w' (.slice p R.length c) R ∧ Below w.heap.size w w' := by
  subst he
  refine (inter_calls b 0 2 v1 v2 x y w (by rw [hB.cell]; rfl) (by rw [hB.cell]; rfl) (Nat.le_refl _) hx hy).mono ?_
  rintro e w' ⟨p, c, rfl, ho, hb⟩
  exact ⟨p, c, rfl, IntsR.of_owns ho hl, hb⟩
theorem union_eq (v : Value) (ls : List (List Int)) (R : List Int) (w : World) (h : LsC w v ls) (hl : ls.length < 65535) (hT : (ls.map List.length).sum < 4294967296) (hR : R.Pairwise (· < ·)) (he : ∀ x, x ∈ R ↔ ∃ l ∈ ls, x ∈ rising l) (hRl : R.length ≤ 4294967296) :
    Calls Try.prog 28 #[v] w fun e w' => ∃ p c, e = .returned (.slice p R.length c) ∧ IntsR w' (.slice p R.length c) R ∧ Below w.heap.size w w' := by
  refine (union_calls v ls w h.1 hl hT).mono ?_
  rintro e w' ⟨xs, ⟨p, c, rfl, ho, hb⟩, h1, h2⟩
  obtain rfl : xs = R := rise_ext h1 hR fun x => by rw [h2, he]
  exact ⟨p, c, rfl, IntsR.of_owns ho hRl, hb⟩
theorem join_eq (va vb vc : Value) (q r l Q : List Part) (w : World) (ha : PartsAt w va q) (hb : PartsAt w vb r) (hc : PartsAt w vc l) (he : q ++ r ++ l = Q) (hr : rightQ Q = true) :
    Calls Try.prog 27 #[va, vb, vc] w fun e w' => ∃ p c, e = .returned (.slice p Q.length c) ∧ PartsAt w' (.slice p Q.length c) Q ∧ Below w.heap.size w w' := by
  subst he
  have hl := (right_terms hr).1
  simp only [List.length_append] at hl
  refine (join_calls va vb vc q r l w ha hb hc (by omega)).mono ?_
  rintro e w' ⟨p, c, rfl, ho, hb⟩
  exact ⟨p, c, rfl, PartsAt.of_right ho hr, hb⟩

/-- The two rows that the law makes: m places of the one, those from k on in the other. -/
structure Two (Mv : Nat → Value) (k : Nat) (w : World) (B : Nat) (pm po : Option Addr) (m n cm co : Nat) : Prop where
  hn : n = m - k
  mine : w.ownsRow B 64 1 (.slice pm m cm) m ((List.range m).map Mv)
  other : w.ownsRow B 64 1 (.slice po n co) n ((List.range n).map fun j => Mv (k + j))
  apart : ∀ g, (Value.slice pm m cm).ownBlock = some g → (Value.slice po n co).ownBlock ≠ some g
theorem Two.grew {Mv : Nat → Value} {k : Nat} {w w' : World} {B : Nat} {pm po : Option Addr} {m n cm co : Nat} (h : Two Mv k w B pm po m n cm co) (hb : Below w.heap.size w w') : Two Mv k w' B pm po m n cm co :=
  ⟨h.hn, owns_grew hb h.mine, owns_grew hb h.other, h.apart⟩
/-- One place more in mine. -/
theorem Two.more {Mv : Nat → Value} {k : Nat} {w w' : World} {B : Nat} {pm po : Option Addr} {m n cm co : Nat} (h : Two Mv k w B pm po m n cm co) {g c : Nat} (hr : w'.ownsRow B 64 1 (.slice (some ⟨g, 0, none⟩) (m + 1) c) (m + 1) ((List.range m).map Mv ++ [Mv m]))
    (hu : Upd (fun x => some x = (Value.slice pm m cm).ownBlock) w w') (hg : pm = some ⟨g, 0, none⟩ ∨ g = w.heap.size) :
    w'.ownsRow B 64 1 (.slice (some ⟨g, 0, none⟩) (m + 1) c) (m + 1) ((List.range (m + 1)).map Mv) ∧ w'.ownsRow B 64 1 (.slice po n co) n ((List.range n).map fun j => Mv (k + j)) ∧
    (∀ x, (Value.slice (some ⟨g, 0, none⟩) (m + 1) c).ownBlock = some x → (Value.slice po n co).ownBlock ≠ some x) := by
  refine ⟨by rw [List.range_succ, List.map_append]; exact hr, hu.owns h.other fun x hx e => h.apart x e.symm hx, fun x hx e => ?_⟩
  simp [Value.ownBlock] at hx
  subst hx
  rcases hg with rfl | rfl
  · exact h.apart g rfl e
  · have := (h.other.lt _ e).2
    omega
theorem Two.step {Mv : Nat → Value} {k : Nat} {w : World} {B : Nat} {po : Option Addr} {m n co g c : Nat} (hk : m < k) (hn : n = m - k)
    (h : w.ownsRow B 64 1 (.slice (some ⟨g, 0, none⟩) (m + 1) c) (m + 1) ((List.range (m + 1)).map Mv) ∧ w.ownsRow B 64 1 (.slice po n co) n ((List.range n).map fun j => Mv (k + j)) ∧
    (∀ x, (Value.slice (some ⟨g, 0, none⟩) (m + 1) c).ownBlock = some x → (Value.slice po n co).ownBlock ≠ some x)) : Two Mv k w B (some ⟨g, 0, none⟩) po (m + 1) n c co :=
  ⟨by omega, h.1, h.2.1, h.2.2⟩
theorem Two.both {Mv : Nat → Value} {k : Nat} {w w' : World} {B : Nat} {po : Option Addr} {m n co g c : Nat} (hk : k ≤ m) (hn : n = m - k)
    (h : w.ownsRow B 64 1 (.slice (some ⟨g, 0, none⟩) (m + 1) c) (m + 1) ((List.range (m + 1)).map Mv) ∧ w.ownsRow B 64 1 (.slice po n co) n ((List.range n).map fun j => Mv (k + j)) ∧
    (∀ x, (Value.slice (some ⟨g, 0, none⟩) (m + 1) c).ownBlock = some x → (Value.slice po n co).ownBlock ≠ some x))
    {g2 c2 : Nat} (hr : w'.ownsRow B 64 1 (.slice (some ⟨g2, 0, none⟩) (n + 1) c2) (n + 1) (((List.range n).map fun j => Mv (k + j)) ++ [Mv m])) (hu : Upd (fun x => some x = (Value.slice po n co).ownBlock) w w') (hg : po = some ⟨g2, 0, none⟩ ∨ g2 = w.heap.size) :
    Two Mv k w' B (some ⟨g, 0, none⟩) (some ⟨g2, 0, none⟩) (m + 1) (n + 1) c c2 := by
  refine ⟨by omega, hu.owns h.1 fun x hx e => h.2.2 x hx e.symm, ?_, fun x hx e => ?_⟩
  · rw [List.range_succ, List.map_append]
    have : k + n = m := by omega
    simpa [this] using hr
  · simp [Value.ownBlock] at hx e
    subst hx
    rcases hg with rfl | rfl
    · exact h.2.2 g rfl (by simp [Value.ownBlock, e])
    · have := (h.1.lt g rfl).2
      omega

set_option maxRecDepth 100000 in
set_option maxHeartbeats 40000000 in
theorem laws_main (va vb vs vall : Value) (a b : List Part) (sets : List (List Int)) (all : List Int) (w : World) (ha : PartsAt w va a) (hb : PartsAt w vb b) (hs : LsC w vs sets) (hl : IntsR w vall all)
    (h1 : rightQ a = true) (h2 : rightQ b = true) (h3 : a.length + b.length ≤ 40) (h4 : all.length ≤ 40) (h5 : sets.length ≤ 40) (h6 : ∀ l ∈ sets, l.length ≤ 40) :
    Calls Try.prog 6 #[va, vb, vs, vall] w fun e w' => e = .returned (.bool true) ∧ Below w.heap.size w w' := by
  have hra := right_calls va a w ha
  have hrb := fun (w' : World) (h : Below w.heap.size w w') => right_calls vb b w' (hb.grew h)
  have hta := fun (w' : World) (h : Below w.heap.size w w') => terms_calls va a w' (ha.grew h) (by omega)
  have hkA := terms_le a
  obtain ⟨pa, ca, rfl, _, _, _⟩ := id ha
  obtain ⟨pb, cb, rfl, _, _, _⟩ := id hb
  obtain ⟨pl, cl, rfl, _, _⟩ := id hl
  obtain ⟨ps, cs, val, rfl, hcs, hval⟩ := hs.vals
  rw [h1] at hra
  rw [h2] at hrb
  obtain ⟨A, hA⟩ : ∃ A, a.length = A := ⟨_, rfl⟩
  obtain ⟨B, hB⟩ : ∃ B, b.length = B := ⟨_, rfl⟩
  obtain ⟨C, hC⟩ : ∃ C, all.length = C := ⟨_, rfl⟩
  obtain ⟨k, hk⟩ : ∃ k, (terms a).length = k := ⟨_, rfl⟩
  obtain ⟨S, hS⟩ : ∃ S, sets.length = S := ⟨_, rfl⟩
  rw [hA] at hra
  simp only [hA, hk] at hta
  simp only [hB] at hrb
  have hval' : ∀ (i : Nat) (hi : i < S), ∃ l, sets[i]? = some l ∧ l.length ≤ 40 ∧ (∃ blk off, ps = some ⟨blk, off, none⟩ ∧ w.cell? ⟨blk, off + i, none⟩ = some (val i)) ∧ IntsR w (val i) l := fun i hi => by
    obtain ⟨g1, g2⟩ := hval i (by omega)
    exact ⟨sets[i]'(by omega), List.getElem?_eq_getElem _, h6 _ (List.getElem_mem _), g1, g2⟩
  have h3' := h3
  rw [hA, hB] at h3
  rw [hA, hB, hC, hS]
  rw [hC] at h4
  rw [hS] at h5
  rw [hk, hA] at hkA
  replace hA := Lib.hid hA
  replace hB := Lib.hid hB
  replace hC := Lib.hid hC
  replace hk := Lib.hid hk
  replace hS := Lib.hid hS
  replace h1 := Lib.hid h1
  replace h2 := Lib.hid h2
  replace h3' := Lib.hid h3'
  replace h6 := Lib.hid h6
  replace hval := Lib.hid hval
  replace hval' := Lib.hid hval'
  go_enter Try.func6, Try.ntmps6
  go_wp2_with fail
  refine hra.mono ?_
  rintro e w1 ⟨rfl, hb1⟩
  clear hra
  go_wp2_with fail
  refine (hrb w1 hb1).mono ?_
  rintro e w2 ⟨rfl, hb2'⟩
  have hsz1 := hb1.size
  have hbw := hb1.trans (hb2'.mono hsz1)
  have hszw := hbw.size
  clear hrb
  go_wp2_with fail
  go_loopw [54] (fun v wr => ∃ k : Nat, v = .int .i64 k ∧ k ≤ S ∧ wr = w2) (fun v _ => S - (intOf v).toNat)
  case atStart => exact ⟨0, rfl, by omega, rfl⟩
  case round =>
    obtain ⟨i, rfl, hi, rfl⟩ := hrel
    by_cases hlt : i < S
    · obtain ⟨l, hl1, hl2, ⟨blk, off, rfl, hcell⟩, hr⟩ := hval'.out i hlt
      obtain ⟨pi, ci, e, _, _⟩ := id hr
      rw [e] at hcell
      have hcell2 := cell_grew hbw hcell
      have hcast : (i : Int) < (S : Int) := by omega
      replace e := Lib.hid e
      replace hl1 := Lib.hid hl1
      clear hcell
      go_wp2_with fail
      go_roundw
      case rel => exact ⟨i + 1, by simp, by omega, by first | rfl | trivial⟩
      case measure => simp [intOf]; omega
    · go_wp2_with fail
      refine (hta wr hbw).mono ?_
      rintro e w3 ⟨pt, ct, rfl, hb3⟩
      clear hta
      have hbw3 := hbw.trans (hb3.mono hszw)
      have hszw3 := hbw3.size
      go_wp2_with fail
      obtain ⟨Mv, hMvd⟩ : ∃ Mv : Nat → Value, Mv = fun i => if S = 0 then .slice none 0 0 else val (i % S) := ⟨_, rfl⟩
      obtain ⟨Ml, hMld⟩ : ∃ Ml : Nat → List Int, Ml = fun i => if S = 0 then [] else sets[i % S]?.getD [] := ⟨_, rfl⟩
      have hread : ∀ i, IntsR w (Mv i) (Ml i) ∧ (Ml i).length ≤ 40 := fun i => by
        rw [hMvd, hMld]
        by_cases hS0 : S = 0
        · simp only [if_pos hS0]
          exact ⟨⟨none, 0, rfl, ⟨⟨by simp, by simp⟩, by simp⟩, by simp⟩, by simp⟩
        · simp only [if_neg hS0]
          obtain ⟨l, hl1, hl2, _, hr⟩ := hval'.out (i % S) (Nat.mod_lt _ (by omega))
          rw [hl1]
          exact ⟨hr, hl2⟩
      replace hMld := Lib.hid hMld
      replace hread := Lib.hid hread
      replace hMvd := Lib.hid hMvd
      go_loopw [11, 12, 13] (fun vm vo vi wl => ∃ (m n : Nat) (pm po : Option Addr) (cm co : Nat), vi = .int .i64 m ∧ m ≤ 2 * k + 2 * B ∧ vm = .slice pm m cm ∧ vo = .slice po n co ∧ Two Mv k wl w3.heap.size pm po m n cm co ∧ Below w3.heap.size w3 wl) (fun _ _ v _ => 2 * k + 2 * B - (intOf v).toNat)
      case atStart => exact ⟨0, 0, none, none, 0, 0, rfl, by omega, rfl, rfl, ⟨by omega, World.ownsRow_nil _ _ _ _, World.ownsRow_nil _ _ _ _, fun g h => by simp [Value.ownBlock] at h⟩, Below.refl _ _⟩
      case round =>
        obtain ⟨m, n, pm, po, cm, co, rfl, hm, rfl, rfl, hTwo, hbl⟩ := hrel
        have hszl := hbl.size
        have hbW : Below w.heap.size w wr := hbw3.trans (hbl.mono hszw3)
        by_cases hlt2 : m < 2 * k + 2 * B
        · obtain ⟨hrd, hlen⟩ := hread.out m
          obtain ⟨pi, ci, hMv, _, _⟩ := id hrd
          generalize (Ml m).length = li at hMv hlen
          clear hrd
          have hltI : (m : Int) < 2 * (k : Int) + 2 * (B : Int) := by omega
          by_cases hS0 : S = 0
          · have hMv0 : Mv m = .slice none 0 0 := by rw [hMvd.out]; simp [hS0]
            rw [hMv0] at hMv
            obtain ⟨rfl, rfl, rfl⟩ : pi = none ∧ li = 0 ∧ ci = 0 := by simp at hMv; exact ⟨hMv.1.symm, hMv.2.1.symm, hMv.2.2.symm⟩
            replace hMv := Lib.hid hMv0
            clear hMv0
            have hSI : ¬ (0 : Int) < (S : Int) := by omega
            replace hS0 := Lib.hid hS0
            by_cases hmk : k ≤ m
            · have hmkI : (k : Int) ≤ (m : Int) := by omega
              go_wp2_with (refine wpl_appendk _ (.tmp 88) (.tmp 90) 63 64 rfl rfl 1 24 Try.underlying63 info_ints (by decide) (by decide) pm m cm ((List.range m).map Mv) w3.heap.size _ [.slice none 0 0] rfl rfl rfl ?ha1 ?ha2 ?ha3 ?ha4 ?ha4b ?ha5)
              case ha1 => exact hTwo.mine.alloc _
              case ha2 => first | omega | (simp; omega)
              try case ha3 => exact one_new wr (.slice none 0 0) 64
              case ha4 => first | rfl | (intro u hu; simp at hu; subst hu; rfl)
              case ha4b => omega
              case ha5 =>
                intro g1 c1 w4 hown1 hupd1 hg1
                have hT1 := (hTwo.grew (w' := wr.alloc (.cells #[.slice none 0 0] 64)) ((Below.refl _ _).alloc (Nat.le_refl _) _)).more (g := g1) (c := c1) (by rw [hMv.out]; exact hown1) hupd1 (by simpa using hg1)
                have hb4 : Below w3.heap.size w3 w4 := hupd1.below_own (hTwo.mine.alloc _) (by simp; omega) (hbl.alloc hszl _)
                have hsz4 := hb4.size
                go_wp2_with (refine wpl_appendk _ (.tmp 95) (.tmp 97) 63 64 rfl rfl 1 24 Try.underlying63 info_ints (by decide) (by decide) po n co ((List.range n).map fun j => Mv (k + j)) w3.heap.size _ [.slice none 0 0] rfl rfl rfl ?ia1 ?ia2 ?ia3 ?ia4 ?ia4b ?ia5)
                case ia1 => exact hT1.2.1.alloc _
                case ia2 => first | omega | (simp; omega)
                try case ia3 => exact one_new w4 (.slice none 0 0) 64
                case ia4 => first | rfl | (intro u hu; simp at hu; subst hu; rfl)
                case ia4b => have := hTwo.hn; omega
                case ia5 =>
                  intro g2 c2 w5 hown2 hupd2 hg2
                  have hb5 : Below w3.heap.size w3 w5 := hupd2.below_own (hT1.2.1.alloc _) (by simp; omega) (hb4.alloc hsz4 _)
                  have hT2 := Two.both (w := w4.alloc (.cells #[.slice none 0 0] 64)) (w' := w5) (m := m) (n := n) (by omega) hTwo.hn ⟨hT1.1.alloc _, hT1.2.1.alloc _, hT1.2.2⟩ (g2 := g2) (c2 := c2) (by rw [hMv.out]; exact hown2) hupd2 (by simpa using hg2)
                  go_wp2_with fail
                  go_roundw
                  case rel => exact ⟨m + 1, n + 1, some ⟨g1, 0, none⟩, some ⟨g2, 0, none⟩, c1, c2, by simp, by omega, by first | rfl | simp, by first | rfl | simp, hT2, hb5⟩
                  case measure => simp [intOf]; omega
            · have hmkI : ¬ (k : Int) ≤ (m : Int) := by omega
              go_wp2_with (refine wpl_appendk _ (.tmp 88) (.tmp 90) 63 64 rfl rfl 1 24 Try.underlying63 info_ints (by decide) (by decide) pm m cm ((List.range m).map Mv) w3.heap.size _ [.slice none 0 0] rfl rfl rfl ?hb1 ?hb2 ?hb3 ?hb4 ?hb4b ?hb5)
              case hb1 => exact hTwo.mine.alloc _
              case hb2 => first | omega | (simp; omega)
              try case hb3 => exact one_new wr (.slice none 0 0) 64
              case hb4 => first | rfl | (intro u hu; simp at hu; subst hu; rfl)
              case hb4b => omega
              case hb5 =>
                intro g1 c1 w4 hown1 hupd1 hg1
                have hT1 := (hTwo.grew (w' := wr.alloc (.cells #[.slice none 0 0] 64)) ((Below.refl _ _).alloc (Nat.le_refl _) _)).more (g := g1) (c := c1) (by rw [hMv.out]; exact hown1) hupd1 (by simpa using hg1)
                have hb4 : Below w3.heap.size w3 w4 := hupd1.below_own (hTwo.mine.alloc _) (by simp; omega) (hbl.alloc hszl _)
                have hsz4 := hb4.size
                go_wp2_with fail
                go_roundw
                case rel => exact ⟨m + 1, n, some ⟨g1, 0, none⟩, po, c1, co, by simp, by omega, by first | rfl | simp, rfl, Two.step (by omega) hTwo.hn hT1, hb4⟩
                case measure => simp [intOf]; omega
          · have hSp : (0 : Int) < (S : Int) := by omega
            obtain ⟨l, hl1, hl2, ⟨blk, off, rfl, hcell⟩, hr⟩ := hval'.out (m % S) (Nat.mod_lt _ (by omega))
            have hMv1 : val (m % S) = .slice pi li ci := by rw [← hMv, hMvd.out]; simp [hS0]
            rw [hMv1] at hcell
            have hcell2 := cell_grew hbW hcell
            replace hMv := Lib.hid hMv
            have hmod : m % S < S := Nat.mod_lt _ (by omega)
            clear hMv1 hcell hr hl1
            by_cases hmk : k ≤ m
            · have hmkI : (k : Int) ≤ (m : Int) := by omega
              go_wp2_with (refine wpl_appendk _ (.tmp 88) (.tmp 90) 63 64 rfl rfl 1 24 Try.underlying63 info_ints (by decide) (by decide) pm m cm ((List.range m).map Mv) w3.heap.size _ [.slice pi li ci] rfl rfl rfl ?hc1 ?hc2 ?hc3 ?hc4 ?hc4b ?hc5)
              case hc1 => exact hTwo.mine.alloc _
              case hc2 => first | omega | (simp; omega)
              try case hc3 => exact one_new wr (.slice pi li ci) 64
              case hc4 => first | rfl | (intro u hu; simp at hu; subst hu; rfl)
              case hc4b => omega
              case hc5 =>
                intro g1 c1 w4 hown1 hupd1 hg1
                have hT1 := (hTwo.grew (w' := wr.alloc (.cells #[.slice pi li ci] 64)) ((Below.refl _ _).alloc (Nat.le_refl _) _)).more (g := g1) (c := c1) (by rw [hMv.out]; exact hown1) hupd1 (by simpa using hg1)
                have hb4 : Below w3.heap.size w3 w4 := hupd1.below_own (hTwo.mine.alloc _) (by simp; omega) (hbl.alloc hszl _)
                have hsz4 := hb4.size
                go_wp2_with (refine wpl_appendk _ (.tmp 95) (.tmp 97) 63 64 rfl rfl 1 24 Try.underlying63 info_ints (by decide) (by decide) po n co ((List.range n).map fun j => Mv (k + j)) w3.heap.size _ [.slice pi li ci] rfl rfl rfl ?ic1 ?ic2 ?ic3 ?ic4 ?ic4b ?ic5)
                case ic1 => exact hT1.2.1.alloc _
                case ic2 => first | omega | (simp; omega)
                try case ic3 => exact one_new w4 (.slice pi li ci) 64
                case ic4 => first | rfl | (intro u hu; simp at hu; subst hu; rfl)
                case ic4b => have := hTwo.hn; omega
                case ic5 =>
                  intro g2 c2 w5 hown2 hupd2 hg2
                  have hb5 : Below w3.heap.size w3 w5 := hupd2.below_own (hT1.2.1.alloc _) (by simp; omega) (hb4.alloc hsz4 _)
                  have hT2 := Two.both (w := w4.alloc (.cells #[.slice pi li ci] 64)) (w' := w5) (m := m) (n := n) (by omega) hTwo.hn ⟨hT1.1.alloc _, hT1.2.1.alloc _, hT1.2.2⟩ (g2 := g2) (c2 := c2) (by rw [hMv.out]; exact hown2) hupd2 (by simpa using hg2)
                  go_wp2_with fail
                  go_roundw
                  case rel => exact ⟨m + 1, n + 1, some ⟨g1, 0, none⟩, some ⟨g2, 0, none⟩, c1, c2, by simp, by omega, by first | rfl | simp, by first | rfl | simp, hT2, hb5⟩
                  case measure => simp [intOf]; omega
            · have hmkI : ¬ (k : Int) ≤ (m : Int) := by omega
              go_wp2_with (refine wpl_appendk _ (.tmp 88) (.tmp 90) 63 64 rfl rfl 1 24 Try.underlying63 info_ints (by decide) (by decide) pm m cm ((List.range m).map Mv) w3.heap.size _ [.slice pi li ci] rfl rfl rfl ?hd1 ?hd2 ?hd3 ?hd4 ?hd4b ?hd5)
              case hd1 => exact hTwo.mine.alloc _
              case hd2 => first | omega | (simp; omega)
              try case hd3 => exact one_new wr (.slice pi li ci) 64
              case hd4 => first | rfl | (intro u hu; simp at hu; subst hu; rfl)
              case hd4b => omega
              case hd5 =>
                intro g1 c1 w4 hown1 hupd1 hg1
                have hT1 := (hTwo.grew (w' := wr.alloc (.cells #[.slice pi li ci] 64)) ((Below.refl _ _).alloc (Nat.le_refl _) _)).more (g := g1) (c := c1) (by rw [hMv.out]; exact hown1) hupd1 (by simpa using hg1)
                have hb4 : Below w3.heap.size w3 w4 := hupd1.below_own (hTwo.mine.alloc _) (by simp; omega) (hbl.alloc hszl _)
                have hsz4 := hb4.size
                go_wp2_with fail
                go_roundw
                case rel => exact ⟨m + 1, n, some ⟨g1, 0, none⟩, po, c1, co, by simp, by omega, by first | rfl | simp, rfl, Two.step (by omega) hTwo.hn hT1, hb4⟩
                case measure => simp [intOf]; omega
        · have hmT : m = 2 * k + 2 * B := by omega
          have hM : LsC wr (.slice pm m cm) ((List.range m).map Ml) := LsC.of_owns hTwo.mine fun i _ => (hread.out i).1.grew hbW
          have hO : LsC wr (.slice po n co) ((List.range n).map fun j => Ml (k + j)) := LsC.of_owns hTwo.other fun i _ => (hread.out (k + i)).1.grew hbW
          have hMO : ((List.range m).map Ml).drop k = (List.range n).map fun j => Ml (k + j) := by rw [hTwo.hn]; exact range_drop m k Ml (by omega)
          generalize (List.range m).map Ml = M at hM hMO
          generalize ((List.range n).map fun j => Ml (k + j)) = O at hO hMO
          have hctx : LCtx wr (.slice pa A ca) (.slice pb B cb) (.slice pl C cl) (.slice pm m cm) (.slice po n co) a b all M O :=
            ⟨by have := ha.grew hbW; rwa [hA.out] at this, by have := hb.grew hbW; rwa [hB.out] at this, by have := hl.grew hbW; rwa [hC.out] at this, hM, hO⟩
          have hTI : ¬ (m : Int) < 2 * (k : Int) + 2 * (B : Int) := by omega
          replace hMO := Lib.hid hMO
          replace hmT := Lib.hid hmT
          clear ha hb hl hs hM hO hTwo hread hval' hval hMvd hMld hcs
          have hp1 := part1_calls
          go_wp2_with fail
          refine (hp1 _ _).mono ?_
          rintro e w4 ⟨rfl, hb4⟩
          have hsz4 := hb4.size
          go_wp2_with fail
          refine (hp1 _ _).mono ?_
          rintro e w5 ⟨rfl, hb5⟩
          have hsz5 := hb5.size
          have hW : Below w.heap.size w w5 := (hbW.trans (hb4.mono hbW.size)).trans (hb5.mono (by have := hbW.size; omega))
          replace hctx := (hctx.grew hb4).grew hb5
          clear hb4 hb5 hsz4 hsz5 hbW hbl hszl hbw3 hszw3 hbw hszw hb1 hb2' hb3 hsz1
          have hall : all.length ≤ 65535 := by have := hC.out; omega
          obtain ⟨U, hUd⟩ : ∃ U, setL all = U := ⟨_, rfl⟩
          obtain ⟨x, hxd⟩ : ∃ x, eval a M all = x := ⟨_, rfl⟩
          obtain ⟨y, hyd⟩ : ∃ y, eval b O all = y := ⟨_, rfl⟩
          have hox := eval_out h1.out M all
          have hoy := eval_out h2.out O all
          rw [hUd] at hox hoy
          rw [hxd] at hox
          rw [hyd] at hoy
          have hUs : U.Pairwise (· < ·) := by rw [← hUd]; exact set_sorted all
          have hUl : U.length ≤ 40 := by
            have e : setL all = rising (all.mergeSort fun x y => decide (x ≤ y)) := set_eq all
            have g1 := rising_len (all.mergeSort fun x y => decide (x ≤ y))
            rw [List.length_mergeSort, ← e, hUd] at g1
            have := hC.out
            omega
          have hal := (right_terms h1.out).1
          have hbl2 := (right_terms h2.out).1
          have h40 := h3'.out
          have hapos : 1 ≤ a.length := right_pos h1.out
          have hbpos : 1 ≤ b.length := right_pos h2.out
          have hdrop : M.drop (terms a).length = O := by rw [hk.out]; exact hMO.out
          have hEall := Lib.hid ((eval_all [97] (by decide) all).trans hUd)
          have hE1 := eval_not h1.out M all (by omega)
          rw [hUd, hxd] at hE1
          have hE2 := eval_not h2.out O all (by omega)
          rw [hUd, hyd] at hE2
          have hE3 := eval_and h1.out h2.out M all (by omega)
          rw [hxd, hdrop, hyd] at hE3
          have hE4 := eval_or h1.out h2.out M all (by omega)
          rw [hxd, hdrop, hyd] at hE4
          have hE5 := eval_nand h1.out h2.out M all (by omega)
          rw [hUd, hxd, hdrop, hyd] at hE5
          have hE6 := eval_notnot h1.out M all (by omega)
          rw [hxd] at hE6
          have hr1 := Lib.hid (right1 (r := [⟨4, []⟩]) h1.out (by decide) (by simpa using by omega))
          have hr2 := Lib.hid (right1 (r := [⟨4, []⟩]) h2.out (by decide) (by simpa using by omega))
          have hr3 := Lib.hid (right2 (r := [⟨2, []⟩]) h1.out h2.out (by decide) (by simpa using by omega))
          have hr4 := Lib.hid (right2 (r := [⟨3, []⟩]) h1.out h2.out (by decide) (by simpa using by omega))
          have hr5 := Lib.hid (right2 (r := [⟨2, []⟩, ⟨4, []⟩]) h1.out h2.out (by decide) (by simpa using by omega))
          have hr6 := Lib.hid (right1 (r := [⟨4, []⟩, ⟨4, []⟩]) h1.out (by decide) (by simpa using by omega))
          have hnxo := minus_sub hUs x
          have hnyo := minus_sub hUs y
          have hano : OutOf U (inter x y) := hox.inter
          have horo : OutOf U (union2 x y) := hox.union hoy
          have hcto : OutOf U (union2 (minus U x) (minus U y)) := hnxo.union hnyo
          have hwc := with_contrary hUs hox
          have u2 : ∀ {p q : List Int}, p.Pairwise (· < ·) → q.Pairwise (· < ·) → ∀ z, z ∈ union2 p q ↔ ∃ l ∈ [p, q], z ∈ rising l := fun hp hq z => by rw [mem_union2]; simp [rising_id hp, rising_id hq]
          have hUor2 := u2 hox.1 hoy.1
          have hUU2 := u2 hox.1 hnxo.1
          rw [hwc.2] at hUU2
          have hUct2 := u2 hnxo.1 hnyo.1
          have hUor1 := Lib.hid (union2_sorted x y)
          have hUct1 := Lib.hid (union2_sorted (minus U x) (minus U y))
          have hUU1 := Lib.hid hUs
          have hU := Lib.hid hUs
          have hlx := sub_len hUs hox.1 hox.2
          have hly := sub_len hUs hoy.1 hoy.2
          have hlnx := sub_len hUs hnxo.1 hnxo.2
          have hlny := sub_len hUs hnyo.1 hnyo.2
          have hlan := sub_len hUs hano.1 hano.2
          have hlor := sub_len hUs horo.1 horo.2
          have hlct := sub_len hUs hcto.1 hcto.2
          have hI0 := hwc.1
          clear hwc u2 hox hoy hnxo hnyo hano horo hcto hUs
          obtain ⟨nx, hnxd⟩ : ∃ nx, minus U x = nx := ⟨_, rfl⟩
          obtain ⟨ny, hnyd⟩ : ∃ ny, minus U y = ny := ⟨_, rfl⟩
          obtain ⟨an, hand⟩ : ∃ an, inter x y = an := ⟨_, rfl⟩
          obtain ⟨orr, hord⟩ : ∃ orr, union2 x y = orr := ⟨_, rfl⟩
          rw [hnxd] at hE1 hE5 hI0 hUU2 hUct1 hUct2 hlnx hlct
          rw [hnyd] at hE2 hE5 hUct1 hUct2 hlny hlct
          rw [hand] at hE3 hlan
          rw [hord] at hE4 hUor1 hUor2 hlor
          obtain ⟨ct, hctd⟩ : ∃ ct, union2 nx ny = ct := ⟨_, rfl⟩
          rw [hctd] at hE5 hUct1 hUct2 hlct
          obtain ⟨Q1, hQ1⟩ : ∃ Q, a ++ [⟨4, []⟩] = Q := ⟨_, rfl⟩
          obtain ⟨Q2, hQ2⟩ : ∃ Q, b ++ [⟨4, []⟩] = Q := ⟨_, rfl⟩
          obtain ⟨Q3, hQ3⟩ : ∃ Q, a ++ b ++ [⟨2, []⟩] = Q := ⟨_, rfl⟩
          obtain ⟨Q4, hQ4⟩ : ∃ Q, a ++ b ++ [⟨3, []⟩] = Q := ⟨_, rfl⟩
          obtain ⟨Q5, hQ5⟩ : ∃ Q, a ++ b ++ [⟨2, []⟩, ⟨4, []⟩] = Q := ⟨_, rfl⟩
          obtain ⟨Q6, hQ6⟩ : ∃ Q, a ++ [⟨4, []⟩, ⟨4, []⟩] = Q := ⟨_, rfl⟩
          rw [hQ1] at hE1 hr1
          rw [hQ2] at hE2 hr2
          rw [hQ3] at hE3 hr3
          rw [hQ4] at hE4 hr4
          rw [hQ5] at hE5 hr5
          rw [hQ6] at hE6 hr6
          rw [← List.append_nil a] at hQ1 hQ6
          rw [← List.append_nil b] at hQ2
          replace hQ1 := Lib.hid hQ1
          replace hQ2 := Lib.hid hQ2
          replace hQ3 := Lib.hid hQ3
          replace hQ4 := Lib.hid hQ4
          replace hQ5 := Lib.hid hQ5
          replace hQ6 := Lib.hid hQ6
          replace hE1 := Lib.hid hE1
          replace hE2 := Lib.hid hE2
          replace hE3 := Lib.hid hE3
          replace hE4 := Lib.hid hE4
          replace hE5 := Lib.hid hE5
          replace hE6 := Lib.hid hE6
          have hIan := Lib.hid hand
          have hEx := Lib.hid hxd
          have hEy := Lib.hid hyd
          replace hI0 := Lib.hid hI0
          replace hUor2 := Lib.hid hUor2
          replace hUU2 := Lib.hid hUU2
          replace hUct2 := Lib.hid hUct2
          have hlens : an.length ≤ 4294967296 := by omega
          clear hUd hxd hyd hnxd hnyd hand hord hctd hdrop hapos hbpos hal h40
          have hg101 : Below w5.heap.size w5 (w5.alloc (.cells #[.int .i64 1, .string ⟨#[97]⟩, .int .i64 1, .string ⟨#[97]⟩, .int .i64 4, .string ⟨#[]⟩, .int .i64 3, .string ⟨#[]⟩] 57)) := (Below.refl _ _).alloc (Nat.le_refl _) _
          have hk106 := eval_eq (.slice (some ⟨w5.heap.size, 0, none⟩) 4 4) (.slice none 0 0) _ [⟨1, [97]⟩, ⟨1, [97]⟩, ⟨4, []⟩, ⟨3, []⟩] [] all U (w5.alloc (.cells #[.int .i64 1, .string ⟨#[97]⟩, .int .i64 1, .string ⟨#[97]⟩, .int .i64 4, .string ⟨#[]⟩, .int .i64 3, .string ⟨#[]⟩] 57)) (PartsAt.lit (T := 57) (Blk.new' _ (List.flatMap partCells [⟨1, [97]⟩, ⟨1, [97]⟩, ⟨4, []⟩, ⟨3, []⟩]) _ rfl) (by decide) (by decide) rfl) (LsC.lit0 _) (hctx.all.grew hg101) hall hEall.out
          go_wp2_with fail
          refine hk106.mono ?_
          rintro e w102 ⟨p104, c105, rfl, hu0, hb103⟩
          clear hk106
          have hst107 : Below w5.heap.size w5 w102 := hg101.trans (hb103.mono (by simp))
          replace hctx := hctx.grew hst107
          replace hW := hW.trans (hst107.mono hW.size)
          clear hst107 hb103 hg101
          have hg108 : Below w102.heap.size w102 (w102.alloc (.cells #[.slice p104 U.length c105] 64)) := (Below.refl _ _).alloc (Nat.le_refl _) _
          have hk113 := union_eq (.slice (some ⟨w102.heap.size, 0, none⟩) 1 1) [U] U (w102.alloc (.cells #[.slice p104 U.length c105] 64)) (LsC.lit (T := 64) (vs := [.slice p104 U.length c105]) (Blk.new' _ _ _ rfl) rfl rfl (fun i hi _ => by match i, hi with | 0, _ => exact hu0.grew hg108)) (by simp) (by simp; omega) hU.out (fun z => by simp [rising_id hU.out]) (by omega)
          go_wp2_with fail
          refine hk113.mono ?_
          rintro e w109 ⟨p111, c112, rfl, hu, hb110⟩
          clear hk113
          have hst114 : Below w102.heap.size w102 w109 := hg108.trans (hb110.mono (by simp))
          replace hctx := hctx.grew hst114
          replace hW := hW.trans (hst114.mono hW.size)
          replace hu0 := hu0.grew hst114
          clear hst114 hb110 hg108
          clear hu0
          have hk119 := eval_eq _ _ _ a M all x w109 hctx.a hctx.m hctx.all hall hEx.out
          go_wp2_with fail
          refine hk119.mono ?_
          rintro e w115 ⟨p117, c118, rfl, hx, hb116⟩
          clear hk119
          replace hctx := hctx.grew hb116
          replace hW := hW.trans (hb116.mono hW.size)
          replace hu := hu.grew hb116
          clear hb116
          have hk124 := eval_eq _ _ _ b O all y w115 hctx.b hctx.o hctx.all hall hEy.out
          go_wp2_with fail
          refine hk124.mono ?_
          rintro e w120 ⟨p122, c123, rfl, hy, hb121⟩
          clear hk124
          replace hctx := hctx.grew hb121
          replace hW := hW.trans (hb121.mono hW.size)
          replace hu := hu.grew hb121
          replace hx := hx.grew hb121
          clear hb121
          go_wp2_with fail
          refine (hp1 _ _).mono ?_
          rintro e w125 ⟨rfl, hb126⟩
          replace hctx := hctx.grew hb126
          replace hW := hW.trans (hb126.mono hW.size)
          replace hu := hu.grew hb126
          replace hx := hx.grew hb126
          replace hy := hy.grew hb126
          clear hb126
          have hg127 : Below w125.heap.size w125 (w125.alloc (.cells #[.int .i64 4, .string ⟨#[]⟩] 57)) := (Below.refl _ _).alloc (Nat.le_refl _) _
          have hk133 := join_eq _ (.slice none 0 0) (.slice (some ⟨w125.heap.size, 0, none⟩) 1 1) a [] [⟨4, []⟩] Q1 (w125.alloc (.cells #[.int .i64 4, .string ⟨#[]⟩] 57)) (hctx.a.grew hg127) (PartsAt.none _) (PartsAt.lit (T := 57) (Blk.new' _ (List.flatMap partCells [⟨4, []⟩]) _ rfl) (by decide) (by decide) rfl) hQ1.out hr1.out
          go_wp2_with fail
          refine hk133.mono ?_
          rintro e w129 ⟨p131, c132, rfl, hq128, hb130⟩
          clear hk133
          have hst134 : Below w125.heap.size w125 w129 := hg127.trans (hb130.mono (by simp))
          replace hctx := hctx.grew hst134
          replace hW := hW.trans (hst134.mono hW.size)
          replace hu := hu.grew hst134
          replace hx := hx.grew hst134
          replace hy := hy.grew hst134
          clear hst134 hb130 hg127
          have hk139 := eval_eq _ _ _ Q1 M all nx w129 hq128 hctx.m hctx.all hall hE1.out
          go_wp2_with fail
          refine hk139.mono ?_
          rintro e w135 ⟨p137, c138, rfl, hnx, hb136⟩
          clear hk139
          replace hctx := hctx.grew hb136
          replace hW := hW.trans (hb136.mono hW.size)
          replace hu := hu.grew hb136
          replace hx := hx.grew hb136
          replace hy := hy.grew hb136
          clear hb136
          clear hq128
          go_wp2_with fail
          refine (hp1 _ _).mono ?_
          rintro e w140 ⟨rfl, hb141⟩
          replace hctx := hctx.grew hb141
          replace hW := hW.trans (hb141.mono hW.size)
          replace hu := hu.grew hb141
          replace hx := hx.grew hb141
          replace hy := hy.grew hb141
          replace hnx := hnx.grew hb141
          clear hb141
          have hg142 : Below w140.heap.size w140 (w140.alloc (.cells #[.int .i64 4, .string ⟨#[]⟩] 57)) := (Below.refl _ _).alloc (Nat.le_refl _) _
          have hk148 := join_eq _ (.slice none 0 0) (.slice (some ⟨w140.heap.size, 0, none⟩) 1 1) b [] [⟨4, []⟩] Q2 (w140.alloc (.cells #[.int .i64 4, .string ⟨#[]⟩] 57)) (hctx.b.grew hg142) (PartsAt.none _) (PartsAt.lit (T := 57) (Blk.new' _ (List.flatMap partCells [⟨4, []⟩]) _ rfl) (by decide) (by decide) rfl) hQ2.out hr2.out
          go_wp2_with fail
          refine hk148.mono ?_
          rintro e w144 ⟨p146, c147, rfl, hq143, hb145⟩
          clear hk148
          have hst149 : Below w140.heap.size w140 w144 := hg142.trans (hb145.mono (by simp))
          replace hctx := hctx.grew hst149
          replace hW := hW.trans (hst149.mono hW.size)
          replace hu := hu.grew hst149
          replace hx := hx.grew hst149
          replace hy := hy.grew hst149
          replace hnx := hnx.grew hst149
          clear hst149 hb145 hg142
          have hk154 := eval_eq _ _ _ Q2 O all ny w144 hq143 hctx.o hctx.all hall hE2.out
          go_wp2_with fail
          refine hk154.mono ?_
          rintro e w150 ⟨p152, c153, rfl, hny, hb151⟩
          clear hk154
          replace hctx := hctx.grew hb151
          replace hW := hW.trans (hb151.mono hW.size)
          replace hu := hu.grew hb151
          replace hx := hx.grew hb151
          replace hy := hy.grew hb151
          replace hnx := hnx.grew hb151
          clear hb151
          clear hq143
          go_wp2_with fail
          refine (hp1 _ _).mono ?_
          rintro e w155 ⟨rfl, hb156⟩
          replace hctx := hctx.grew hb156
          replace hW := hW.trans (hb156.mono hW.size)
          replace hu := hu.grew hb156
          replace hx := hx.grew hb156
          replace hy := hy.grew hb156
          replace hnx := hnx.grew hb156
          replace hny := hny.grew hb156
          clear hb156
          have hg157 : Below w155.heap.size w155 (w155.alloc (.cells #[.int .i64 2, .string ⟨#[]⟩] 57)) := (Below.refl _ _).alloc (Nat.le_refl _) _
          have hk163 := join_eq _ _ (.slice (some ⟨w155.heap.size, 0, none⟩) 1 1) a b [⟨2, []⟩] Q3 (w155.alloc (.cells #[.int .i64 2, .string ⟨#[]⟩] 57)) (hctx.a.grew hg157) (hctx.b.grew hg157) (PartsAt.lit (T := 57) (Blk.new' _ (List.flatMap partCells [⟨2, []⟩]) _ rfl) (by decide) (by decide) rfl) hQ3.out hr3.out
          go_wp2_with fail
          refine hk163.mono ?_
          rintro e w159 ⟨p161, c162, rfl, hq158, hb160⟩
          clear hk163
          have hst164 : Below w155.heap.size w155 w159 := hg157.trans (hb160.mono (by simp))
          replace hctx := hctx.grew hst164
          replace hW := hW.trans (hst164.mono hW.size)
          replace hu := hu.grew hst164
          replace hx := hx.grew hst164
          replace hy := hy.grew hst164
          replace hnx := hnx.grew hst164
          replace hny := hny.grew hst164
          clear hst164 hb160 hg157
          have hk169 := eval_eq _ _ _ Q3 M all an w159 hq158 hctx.m hctx.all hall hE3.out
          go_wp2_with fail
          refine hk169.mono ?_
          rintro e w165 ⟨p167, c168, rfl, han, hb166⟩
          clear hk169
          replace hctx := hctx.grew hb166
          replace hW := hW.trans (hb166.mono hW.size)
          replace hu := hu.grew hb166
          replace hx := hx.grew hb166
          replace hy := hy.grew hb166
          replace hnx := hnx.grew hb166
          replace hny := hny.grew hb166
          clear hb166
          clear hq158
          go_wp2_with fail
          refine (hp1 _ _).mono ?_
          rintro e w170 ⟨rfl, hb171⟩
          replace hctx := hctx.grew hb171
          replace hW := hW.trans (hb171.mono hW.size)
          replace hu := hu.grew hb171
          replace hx := hx.grew hb171
          replace hy := hy.grew hb171
          replace hnx := hnx.grew hb171
          replace hny := hny.grew hb171
          replace han := han.grew hb171
          clear hb171
          have hg172 : Below w170.heap.size w170 (w170.alloc (.cells #[.int .i64 3, .string ⟨#[]⟩] 57)) := (Below.refl _ _).alloc (Nat.le_refl _) _
          have hk178 := join_eq _ _ (.slice (some ⟨w170.heap.size, 0, none⟩) 1 1) a b [⟨3, []⟩] Q4 (w170.alloc (.cells #[.int .i64 3, .string ⟨#[]⟩] 57)) (hctx.a.grew hg172) (hctx.b.grew hg172) (PartsAt.lit (T := 57) (Blk.new' _ (List.flatMap partCells [⟨3, []⟩]) _ rfl) (by decide) (by decide) rfl) hQ4.out hr4.out
          go_wp2_with fail
          refine hk178.mono ?_
          rintro e w174 ⟨p176, c177, rfl, hq173, hb175⟩
          clear hk178
          have hst179 : Below w170.heap.size w170 w174 := hg172.trans (hb175.mono (by simp))
          replace hctx := hctx.grew hst179
          replace hW := hW.trans (hst179.mono hW.size)
          replace hu := hu.grew hst179
          replace hx := hx.grew hst179
          replace hy := hy.grew hst179
          replace hnx := hnx.grew hst179
          replace hny := hny.grew hst179
          replace han := han.grew hst179
          clear hst179 hb175 hg172
          have hk184 := eval_eq _ _ _ Q4 M all orr w174 hq173 hctx.m hctx.all hall hE4.out
          go_wp2_with fail
          refine hk184.mono ?_
          rintro e w180 ⟨p182, c183, rfl, hor, hb181⟩
          clear hk184
          replace hctx := hctx.grew hb181
          replace hW := hW.trans (hb181.mono hW.size)
          replace hu := hu.grew hb181
          replace hx := hx.grew hb181
          replace hy := hy.grew hb181
          replace hnx := hnx.grew hb181
          replace hny := hny.grew hb181
          replace han := han.grew hb181
          clear hb181
          clear hq173
          have hg185 : Below w180.heap.size w180 (w180.alloc (.cells #[.slice p117 x.length c118, .slice p122 y.length c123] 64)) := (Below.refl _ _).alloc (Nat.le_refl _) _
          have hk190 := inter_eq w180.heap.size _ _ x y an 64 (w180.alloc (.cells #[.slice p117 x.length c118, .slice p122 y.length c123] 64)) (Blk.new' _ [.slice p117 x.length c118, .slice p122 y.length c123] _ rfl) (hx.grew hg185) (hy.grew hg185) hIan.out (by first | exact hlens | simp)
          go_wp2_with fail
          refine hk190.mono ?_
          rintro e w186 ⟨p188, c189, rfl, t1, hb187⟩
          clear hk190
          have hst191 : Below w180.heap.size w180 w186 := hg185.trans (hb187.mono (by simp))
          replace hctx := hctx.grew hst191
          replace hW := hW.trans (hst191.mono hW.size)
          replace hu := hu.grew hst191
          replace hx := hx.grew hst191
          replace hy := hy.grew hst191
          replace hnx := hnx.grew hst191
          replace hny := hny.grew hst191
          replace han := han.grew hst191
          replace hor := hor.grew hst191
          clear hst191 hb187 hg185
          have hk194 := same_eq _ _ _ _ w186 han t1 rfl
          go_wp2_with fail
          refine hk194.mono ?_
          rintro e w192 ⟨rfl, hb193⟩
          clear hk194
          replace hctx := hctx.grew hb193
          replace hW := hW.trans (hb193.mono hW.size)
          replace hu := hu.grew hb193
          replace hx := hx.grew hb193
          replace hy := hy.grew hb193
          replace hnx := hnx.grew hb193
          replace hny := hny.grew hb193
          replace han := han.grew hb193
          replace hor := hor.grew hb193
          clear hb193
          clear t1
          have hg195 : Below w192.heap.size w192 (w192.alloc (.cells #[.slice p117 x.length c118, .slice p122 y.length c123] 64)) := (Below.refl _ _).alloc (Nat.le_refl _) _
          have hk200 := union_eq _ [x, y] orr (w192.alloc (.cells #[.slice p117 x.length c118, .slice p122 y.length c123] 64)) (LsC.two (Blk.new' _ [.slice p117 x.length c118, .slice p122 y.length c123] _ rfl) (hx.grew hg195) (hy.grew hg195)) (by simp) (by simp; omega) hUor1.out hUor2.out (by omega)
          go_wp2_with fail
          refine hk200.mono ?_
          rintro e w196 ⟨p198, c199, rfl, t2, hb197⟩
          clear hk200
          have hst201 : Below w192.heap.size w192 w196 := hg195.trans (hb197.mono (by simp))
          replace hctx := hctx.grew hst201
          replace hW := hW.trans (hst201.mono hW.size)
          replace hu := hu.grew hst201
          replace hx := hx.grew hst201
          replace hy := hy.grew hst201
          replace hnx := hnx.grew hst201
          replace hny := hny.grew hst201
          replace han := han.grew hst201
          replace hor := hor.grew hst201
          clear hst201 hb197 hg195
          have hk204 := same_eq _ _ _ _ w196 hor t2 rfl
          go_wp2_with fail
          refine hk204.mono ?_
          rintro e w202 ⟨rfl, hb203⟩
          clear hk204
          replace hctx := hctx.grew hb203
          replace hW := hW.trans (hb203.mono hW.size)
          replace hu := hu.grew hb203
          replace hx := hx.grew hb203
          replace hy := hy.grew hb203
          replace hnx := hnx.grew hb203
          replace hny := hny.grew hb203
          replace han := han.grew hb203
          replace hor := hor.grew hb203
          clear hb203
          clear t2 han hor
          have hg205 : Below w202.heap.size w202 (w202.alloc (.cells #[.slice p117 x.length c118, .slice p137 nx.length c138] 64)) := (Below.refl _ _).alloc (Nat.le_refl _) _
          have hk210 := inter_eq w202.heap.size _ _ x nx [] 64 (w202.alloc (.cells #[.slice p117 x.length c118, .slice p137 nx.length c138] 64)) (Blk.new' _ [.slice p117 x.length c118, .slice p137 nx.length c138] _ rfl) (hx.grew hg205) (hnx.grew hg205) hI0.out (by first | exact hlens | simp)
          go_wp2_with fail
          refine hk210.mono ?_
          rintro e w206 ⟨p208, c209, rfl, t3, hb207⟩
          clear hk210
          have hst211 : Below w202.heap.size w202 w206 := hg205.trans (hb207.mono (by simp))
          replace hctx := hctx.grew hst211
          replace hW := hW.trans (hst211.mono hW.size)
          replace hu := hu.grew hst211
          replace hx := hx.grew hst211
          replace hy := hy.grew hst211
          replace hnx := hnx.grew hst211
          replace hny := hny.grew hst211
          clear hst211 hb207 hg205
          clear t3
          simp only [List.length_nil]
          have hg212 : Below w206.heap.size w206 (w206.alloc (.cells #[.slice p117 x.length c118, .slice p137 nx.length c138] 64)) := (Below.refl _ _).alloc (Nat.le_refl _) _
          have hk217 := union_eq _ [x, nx] U (w206.alloc (.cells #[.slice p117 x.length c118, .slice p137 nx.length c138] 64)) (LsC.two (Blk.new' _ [.slice p117 x.length c118, .slice p137 nx.length c138] _ rfl) (hx.grew hg212) (hnx.grew hg212)) (by simp) (by simp; omega) hUU1.out hUU2.out (by omega)
          go_wp2_with fail
          refine hk217.mono ?_
          rintro e w213 ⟨p215, c216, rfl, t4, hb214⟩
          clear hk217
          have hst218 : Below w206.heap.size w206 w213 := hg212.trans (hb214.mono (by simp))
          replace hctx := hctx.grew hst218
          replace hW := hW.trans (hst218.mono hW.size)
          replace hu := hu.grew hst218
          replace hx := hx.grew hst218
          replace hy := hy.grew hst218
          replace hnx := hnx.grew hst218
          replace hny := hny.grew hst218
          clear hst218 hb214 hg212
          have hk221 := same_eq _ _ _ _ w213 t4 hu rfl
          go_wp2_with fail
          refine hk221.mono ?_
          rintro e w219 ⟨rfl, hb220⟩
          clear hk221
          replace hctx := hctx.grew hb220
          replace hW := hW.trans (hb220.mono hW.size)
          replace hu := hu.grew hb220
          replace hx := hx.grew hb220
          replace hy := hy.grew hb220
          replace hnx := hnx.grew hb220
          replace hny := hny.grew hb220
          clear hb220
          clear t4
          go_wp2_with fail
          refine (hp1 _ _).mono ?_
          rintro e w222 ⟨rfl, hb223⟩
          replace hctx := hctx.grew hb223
          replace hW := hW.trans (hb223.mono hW.size)
          replace hu := hu.grew hb223
          replace hx := hx.grew hb223
          replace hy := hy.grew hb223
          replace hnx := hnx.grew hb223
          replace hny := hny.grew hb223
          clear hb223
          go_wp2_with fail
          refine (hp1 _ _).mono ?_
          rintro e w224 ⟨rfl, hb225⟩
          replace hctx := hctx.grew hb225
          replace hW := hW.trans (hb225.mono hW.size)
          replace hu := hu.grew hb225
          replace hx := hx.grew hb225
          replace hy := hy.grew hb225
          replace hnx := hnx.grew hb225
          replace hny := hny.grew hb225
          clear hb225
          have hg226 : Below w224.heap.size w224 (w224.alloc (.cells #[.int .i64 2, .string ⟨#[]⟩, .int .i64 4, .string ⟨#[]⟩] 57)) := (Below.refl _ _).alloc (Nat.le_refl _) _
          have hk232 := join_eq _ _ (.slice (some ⟨w224.heap.size, 0, none⟩) 2 2) a b [⟨2, []⟩, ⟨4, []⟩] Q5 (w224.alloc (.cells #[.int .i64 2, .string ⟨#[]⟩, .int .i64 4, .string ⟨#[]⟩] 57)) (hctx.a.grew hg226) (hctx.b.grew hg226) (PartsAt.lit (T := 57) (Blk.new' _ (List.flatMap partCells [⟨2, []⟩, ⟨4, []⟩]) _ rfl) (by decide) (by decide) rfl) hQ5.out hr5.out
          go_wp2_with fail
          refine hk232.mono ?_
          rintro e w228 ⟨p230, c231, rfl, hq227, hb229⟩
          clear hk232
          have hst233 : Below w224.heap.size w224 w228 := hg226.trans (hb229.mono (by simp))
          replace hctx := hctx.grew hst233
          replace hW := hW.trans (hst233.mono hW.size)
          replace hu := hu.grew hst233
          replace hx := hx.grew hst233
          replace hy := hy.grew hst233
          replace hnx := hnx.grew hst233
          replace hny := hny.grew hst233
          clear hst233 hb229 hg226
          have hk238 := eval_eq _ _ _ Q5 M all ct w228 hq227 hctx.m hctx.all hall hE5.out
          go_wp2_with fail
          refine hk238.mono ?_
          rintro e w234 ⟨p236, c237, rfl, hct, hb235⟩
          clear hk238
          replace hctx := hctx.grew hb235
          replace hW := hW.trans (hb235.mono hW.size)
          replace hu := hu.grew hb235
          replace hx := hx.grew hb235
          replace hy := hy.grew hb235
          replace hnx := hnx.grew hb235
          replace hny := hny.grew hb235
          clear hb235
          clear hq227
          have hg239 : Below w234.heap.size w234 (w234.alloc (.cells #[.slice p137 nx.length c138, .slice p152 ny.length c153] 64)) := (Below.refl _ _).alloc (Nat.le_refl _) _
          have hk244 := union_eq _ [nx, ny] ct (w234.alloc (.cells #[.slice p137 nx.length c138, .slice p152 ny.length c153] 64)) (LsC.two (Blk.new' _ [.slice p137 nx.length c138, .slice p152 ny.length c153] _ rfl) (hnx.grew hg239) (hny.grew hg239)) (by simp) (by simp; omega) hUct1.out hUct2.out (by omega)
          go_wp2_with fail
          refine hk244.mono ?_
          rintro e w240 ⟨p242, c243, rfl, t5, hb241⟩
          clear hk244
          have hst245 : Below w234.heap.size w234 w240 := hg239.trans (hb241.mono (by simp))
          replace hctx := hctx.grew hst245
          replace hW := hW.trans (hst245.mono hW.size)
          replace hu := hu.grew hst245
          replace hx := hx.grew hst245
          replace hy := hy.grew hst245
          replace hnx := hnx.grew hst245
          replace hny := hny.grew hst245
          replace hct := hct.grew hst245
          clear hst245 hb241 hg239
          have hk248 := same_eq _ _ _ _ w240 hct t5 rfl
          go_wp2_with fail
          refine hk248.mono ?_
          rintro e w246 ⟨rfl, hb247⟩
          clear hk248
          replace hctx := hctx.grew hb247
          replace hW := hW.trans (hb247.mono hW.size)
          replace hu := hu.grew hb247
          replace hx := hx.grew hb247
          replace hy := hy.grew hb247
          replace hnx := hnx.grew hb247
          replace hny := hny.grew hb247
          replace hct := hct.grew hb247
          clear hb247
          clear t5 hct
          go_wp2_with fail
          refine (hp1 _ _).mono ?_
          rintro e w249 ⟨rfl, hb250⟩
          replace hctx := hctx.grew hb250
          replace hW := hW.trans (hb250.mono hW.size)
          replace hu := hu.grew hb250
          replace hx := hx.grew hb250
          replace hy := hy.grew hb250
          replace hnx := hnx.grew hb250
          replace hny := hny.grew hb250
          clear hb250
          go_wp2_with fail
          refine (hp1 _ _).mono ?_
          rintro e w251 ⟨rfl, hb252⟩
          replace hctx := hctx.grew hb252
          replace hW := hW.trans (hb252.mono hW.size)
          replace hu := hu.grew hb252
          replace hx := hx.grew hb252
          replace hy := hy.grew hb252
          replace hnx := hnx.grew hb252
          replace hny := hny.grew hb252
          clear hb252
          have hg253 : Below w251.heap.size w251 (w251.alloc (.cells #[.int .i64 4, .string ⟨#[]⟩, .int .i64 4, .string ⟨#[]⟩] 57)) := (Below.refl _ _).alloc (Nat.le_refl _) _
          have hk259 := join_eq _ (.slice none 0 0) (.slice (some ⟨w251.heap.size, 0, none⟩) 2 2) a [] [⟨4, []⟩, ⟨4, []⟩] Q6 (w251.alloc (.cells #[.int .i64 4, .string ⟨#[]⟩, .int .i64 4, .string ⟨#[]⟩] 57)) (hctx.a.grew hg253) (PartsAt.none _) (PartsAt.lit (T := 57) (Blk.new' _ (List.flatMap partCells [⟨4, []⟩, ⟨4, []⟩]) _ rfl) (by decide) (by decide) rfl) hQ6.out hr6.out
          go_wp2_with fail
          refine hk259.mono ?_
          rintro e w255 ⟨p257, c258, rfl, hq254, hb256⟩
          clear hk259
          have hst260 : Below w251.heap.size w251 w255 := hg253.trans (hb256.mono (by simp))
          replace hctx := hctx.grew hst260
          replace hW := hW.trans (hst260.mono hW.size)
          replace hu := hu.grew hst260
          replace hx := hx.grew hst260
          replace hy := hy.grew hst260
          replace hnx := hnx.grew hst260
          replace hny := hny.grew hst260
          clear hst260 hb256 hg253
          have hk265 := eval_eq _ _ _ Q6 M all x w255 hq254 hctx.m hctx.all hall hE6.out
          go_wp2_with fail
          refine hk265.mono ?_
          rintro e w261 ⟨p263, c264, rfl, hx2, hb262⟩
          clear hk265
          replace hctx := hctx.grew hb262
          replace hW := hW.trans (hb262.mono hW.size)
          replace hu := hu.grew hb262
          replace hx := hx.grew hb262
          replace hy := hy.grew hb262
          replace hnx := hnx.grew hb262
          replace hny := hny.grew hb262
          clear hb262
          clear hq254
          have hk268 := same_eq _ _ _ _ w261 hx2 hx rfl
          go_wp2_with fail
          refine hk268.mono ?_
          rintro e w266 ⟨rfl, hb267⟩
          clear hk268
          replace hctx := hctx.grew hb267
          replace hW := hW.trans (hb267.mono hW.size)
          replace hu := hu.grew hb267
          replace hx := hx.grew hb267
          replace hy := hy.grew hb267
          replace hnx := hnx.grew hb267
          replace hny := hny.grew hb267
          replace hx2 := hx2.grew hb267
          clear hb267
          have hrun := runs_calls
          go_wp2_with fail
          refine (hrun _).mono ?_
          rintro e wZ ⟨rfl, hbZ⟩
          go_wp2_with fail
          go_ret
          exact ⟨rfl, hW.trans (hbZ.mono hW.size)⟩
end Go.Proofs.Ytpobpijjpbggoaa
