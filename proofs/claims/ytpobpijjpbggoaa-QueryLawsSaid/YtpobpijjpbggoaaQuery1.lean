/- package query: reading a query: the small steps. -/
import Derived.Test.YtpobpijjpbggoaaBase
import Derived.Test.YtpobpijjpbggoaaQueryFns
set_option linter.unusedSimpArgs false
set_option linter.unusedVariables false
namespace Go.Proofs.Ytpobpijjpbggoaa
open Go.RowKit Go.Ten Go.Ten.Qy

/-- A byte as the walk has it. -/
theorem letter_int (c : UInt8) : ((letter c).toNat : Int) = if (97 ≤ (c.toNat : Int) ∧ (c.toNat : Int) ≤ 122) ∨ (48 ≤ (c.toNat : Int) ∧ (c.toNat : Int) ≤ 57) then (c.toNat : Int) else if 65 ≤ (c.toNat : Int) ∧ (c.toNat : Int) ≤ 90 then (c.toNat : Int) - 65 + 97 else 0 := by
  have h : ∀ n : Fin 256, ((letter (UInt8.ofFin n)).toNat : Int) = if (97 ≤ ((UInt8.ofFin n).toNat : Int) ∧ ((UInt8.ofFin n).toNat : Int) ≤ 122) ∨ (48 ≤ ((UInt8.ofFin n).toNat : Int) ∧ ((UInt8.ofFin n).toNat : Int) ≤ 57) then ((UInt8.ofFin n).toNat : Int) else if 65 ≤ ((UInt8.ofFin n).toNat : Int) ∧ ((UInt8.ofFin n).toNat : Int) ≤ 90 then ((UInt8.ofFin n).toNat : Int) - 65 + 97 else 0 := by decide +kernel
  exact h c.toFin

set_option maxRecDepth 100000 in
set_option maxHeartbeats 400000 in
theorem letter_calls (c : UInt8) (w : World) : Calls Try.prog 24 #[.int .u8 c.toNat] w fun e w' => e = .returned (.int .u8 (letter c).toNat) ∧ w = w' := by
  have hc := c.toNat_lt
  rw [letter_int]
  generalize c.toNat = x at *
  go_enter Try.func24, Try.ntmps24
  go_wp2
  all_goals go_ret
  all_goals exact ⟨rfl, rfl⟩

theorem idx_cons (x : UInt8) (t : List UInt8) (h : 0 < (ByteArray.mk (x :: t).toArray).size) : (ByteArray.mk (x :: t).toArray)[0]'h = x := rfl
theorem ext_cons (x : UInt8) (t : List UInt8) : (ByteArray.mk (x :: t).toArray).extract 1 (t.length + 1) = ⟨t.toArray⟩ := by
  rw [ByteArray.extract_mk]; simp
attribute [local go_sem] idx_cons ext_cons
theorem u8_ne {x : UInt8} {n : Nat} (h : x ≠ UInt8.ofNat n) (hn : n < 256) : ¬ ((x.toNat : Int) = (n : Int)) := by
  intro e
  apply h
  apply UInt8.toNat_inj.1
  rw [UInt8.toNat_ofNat']
  omega

def partCells (p : Part) : List Value := [.int .i64 p.kind, .string ⟨p.term.toArray⟩]

/-- The reader at b. -/
def Rd (w : World) (B b : Nat) (r : R) : Prop := ∃ p c, Blk w b [.string ⟨r.s.toArray⟩, .int .i64 r.deep, .slice p r.out.length c, .int .i64 r.bad] 102 ∧
  w.ownsRow B 57 2 (.slice p r.out.length c) r.out.length (r.out.flatMap partCells) ∧ (Value.slice p r.out.length c).ownBlock ≠ some b ∧ B ≤ b ∧ r.s.length ≤ 512 ∧ r.out.length ≤ 64

def cellLen (w : World) (b : Nat) : Nat := match w.cell? ⟨b, 0, none⟩ with | some (.string s) => s.size | _ => 0

theorem cellLen_str {w : World} {b : Nat} {l : List UInt8} (h : w.cell? ⟨b, 0, none⟩ = some (.string ⟨l.toArray⟩)) : cellLen w b = l.length := by
  unfold cellLen
  rw [h]
  simp [ByteArray.size]

theorem Rd.setS {w : World} {B b : Nat} {r : R} (h : Rd w B b r) (s : List UInt8) (hs : s.length ≤ 512) : Rd (w.setCell ⟨b, 0, none⟩ (.string ⟨s.toArray⟩)) B b { r with s := s } := by
  obtain ⟨p, c, h1, h2, h3, h4, h5, h6⟩ := h
  exact ⟨p, c, h1.setCell 0 _, ownsRow_setCell_off h2 h3 _, h3, h4, hs, h6⟩
theorem Rd.setDeep {w : World} {B b : Nat} {r : R} (h : Rd w B b r) (d : Int) : Rd (w.setCell ⟨b, 1, none⟩ (.int .i64 d)) B b { r with deep := d } := by
  obtain ⟨p, c, h1, h2, h3, h4, h5, h6⟩ := h
  exact ⟨p, c, h1.setCell 1 _, ownsRow_setCell_off h2 h3 _, h3, h4, h5, h6⟩
theorem Rd.setBad {w : World} {B b : Nat} {r : R} (h : Rd w B b r) (d : Int) : Rd (w.setCell ⟨b, 3, none⟩ (.int .i64 d)) B b { r with bad := d } := by
  obtain ⟨p, c, h1, h2, h3, h4, h5, h6⟩ := h
  exact ⟨p, c, h1.setCell 3 _, ownsRow_setCell_off h2 h3 _, h3, h4, h5, h6⟩
theorem Rd.cells {w : World} {B b : Nat} {r : R} (h : Rd w B b r) : w.cell? ⟨b, 0, none⟩ = some (.string ⟨r.s.toArray⟩) ∧ w.cell? ⟨b, 1, none⟩ = some (.int .i64 r.deep) ∧ w.cell? ⟨b, 3, none⟩ = some (.int .i64 r.bad) ∧
    (∃ p c, w.cell? ⟨b, 2, none⟩ = some (.slice p r.out.length c)) ∧ (∀ o, w.frozen? ⟨b, o, none⟩ = false) := by
  obtain ⟨p, c, h1, h2, h3, h4, h5, h6⟩ := h
  exact ⟨by rw [h1.cell]; rfl, by rw [h1.cell]; rfl, by rw [h1.cell]; rfl, ⟨p, c, by rw [h1.cell]; rfl⟩, h1.frozen⟩
theorem Rd.hb {w : World} {B b : Nat} {r : R} (h : Rd w B b r) : B ≤ b := by obtain ⟨p, c, h1, h2, h3, h4, h5, h6⟩ := h; exact h4
theorem Rd.lt {w : World} {B b : Nat} {r : R} (h : Rd w B b r) : b < w.heap.size := by obtain ⟨p, c, h1, h2, h3, h4, h5, h6⟩ := h; exact h1.lt
theorem Rd.hB {w : World} {B b : Nat} {r : R} (h : Rd w B b r) : B ≤ w.heap.size := by have := h.lt; have := h.hb; omega
theorem Rd.hs {w : World} {B b : Nat} {r : R} (h : Rd w B b r) : r.s.length ≤ 512 := by obtain ⟨p, c, h1, h2, h3, h4, h5, h6⟩ := h; exact h5
theorem below_set {B : Nat} {w w' : World} (h : Below B w w') {b : Nat} (hb : B ≤ b) (o : Nat) (v : Value) : Below B w (w'.setCell ⟨b, o, none⟩ v) :=
  h.setCell hb v

set_option maxRecDepth 100000 in
set_option maxHeartbeats 400000 in
theorem wrong_calls (B b : Nat) (r : R) (x : Int) (w : World) (h : Rd w B b r) : Calls Try.prog 53 #[.pointer (some ⟨b, 0, none⟩), .int .i64 x] w fun e w' => e = .returned (.tuple #[]) ∧ Rd w' B b (rdWrong x r) ∧ Upd (fun k => k = b) w w' := by
  obtain ⟨c0, c1, c3, ⟨p, c, c2⟩, cf⟩ := h.cells
  go_enter Try.func53, Try.ntmps53
  by_cases hb : r.bad = 0
  · rw [hb] at c3
    go_wp2
    go_end0
    refine ⟨rfl, ?_, (Upd.refl (fun k => k = b) w).setCell (p := ⟨b, 3, none⟩) (.inl rfl) _⟩
    rw [rdWrong, if_pos hb]
    exact h.setBad x
  · go_wp2
    go_end0
    refine ⟨rfl, ?_, Upd.refl _ w⟩
    rw [rdWrong, if_neg hb]
    exact h

set_option maxRecDepth 100000 in
set_option maxHeartbeats 400000 in
theorem peek_calls (B b : Nat) (r : R) (w : World) (h : Rd w B b r) : Calls Try.prog 52 #[.pointer (some ⟨b, 0, none⟩)] w fun e w' =>
    e = .returned (.tuple #[.int .u8 (headB (skipB r.s)).toNat, .bool (decide (skipB r.s ≠ []))]) ∧ Rd w' B b (pk r) ∧ Below B w w' := by
  go_enter Try.func52, Try.ntmps52
  go_wp2
  go_loopw [] (fun wr => ∃ s, skipB s = skipB r.s ∧ s.length ≤ 512 ∧ Rd wr B b { r with s := s } ∧ Below B w wr) (fun wr => cellLen wr b)
  case atStart => exact ⟨r.s, rfl, h.hs, h, Below.refl _ _⟩
  case round =>
    obtain ⟨s, hs, hl, hr, hw⟩ := hrel
    obtain ⟨c0, c1, c3, ⟨p, c, c2⟩, cf⟩ := hr.cells
    have hs := Lib.hid hs
    rcases s with _ | ⟨x, t⟩
    · go_wp2
      go_ret2
      have e : skipB r.s = [] := hs.out.symm
      rw [pk, e]
      exact ⟨rfl, hr, hw⟩
    · by_cases hx : x = 32
      · subst hx
        go_wp2
        go_roundw
        case rel => exact ⟨t, hs.out, by simp at hl; omega, hr.setS t (by simp at hl; omega), below_set hw hr.hb _ _⟩
        case measure =>
          have m1 : cellLen (wr.setCell ⟨b, 0, none⟩ (.string ⟨t.toArray⟩)) b = t.length := cellLen_str (hr.setS t (by simp at hl; omega)).cells.1
          rw [m1, cellLen_str c0]
          simp
      · have hx1 := u8_ne (n := 32) hx (by omega)
        go_wp2
        go_ret2
        have e : skipB r.s = x :: t := by rw [← hs.out, skipB, if_neg hx]
        rw [pk, e]
        exact ⟨rfl, hr, hw⟩

set_option maxRecDepth 100000 in
set_option maxHeartbeats 400000 in
theorem take_calls (B b : Nat) (r : R) (x : UInt8) (w : World) (h : Rd w B b r) : Calls Try.prog 82 #[.pointer (some ⟨b, 0, none⟩), .int .u8 x.toNat] w fun e w' =>
    e = .returned (.bool (tk x r).2) ∧ Rd w' B b (tk x r).1 ∧ Below B w w' := by
  go_enter Try.func82, Try.ntmps82
  go_wp2_with fail
  refine (peek_calls B b r w h).mono ?_
  rintro e w1 ⟨rfl, h1, hw1⟩
  obtain ⟨c0, c1, c3, ⟨p, c, c2⟩, cf⟩ := h1.cells
  simp only [pk] at c0
  rcases hk : skipB r.s with _ | ⟨d, t⟩
  · rw [hk] at c0
    go_wp2
    go_ret
    have e : tk x r = ({ r with s := [] }, false) := by rw [tk, hk]
    rw [e]
    rw [pk, hk] at h1
    exact ⟨rfl, h1, hw1⟩
  · rw [hk] at c0
    simp only [headB, List.headD_cons]
    rw [pk, hk] at h1
    by_cases hd : d = x
    · subst hd
      go_wp2
      go_ret
      have e : tk d r = ({ r with s := t }, true) := by rw [tk, hk]; simp
      rw [e]
      have := h1.hs
      simp at this
      exact ⟨rfl, h1.setS t (by omega), below_set hw1 h.hb _ _⟩
    · have hx1 : ¬ ((d.toNat : Int) = (x.toNat : Int)) := fun e => hd (UInt8.toNat_inj.1 (by omega))
      go_wp2
      go_ret
      have e : tk x r = ({ r with s := d :: t }, false) := by rw [tk, hk]; simp [hd]
      rw [e]
      exact ⟨rfl, h1, hw1⟩

theorem info_part : (Try.prog.info? 57).map (fun i => (i.zero.map (fun z => z.cells.size), i.size, i.bytes)) = some (some 2, 2, 24) := by kernel_rfl

set_option maxRecDepth 100000 in
set_option maxHeartbeats 400000 in
theorem part_calls (B b : Nat) (r : R) (k : Int) (t : List UInt8) (w : World) (h : Rd w B b r) : Calls Try.prog 83 #[.pointer (some ⟨b, 0, none⟩), .int .i64 k, .string ⟨t.toArray⟩] w fun e w' =>
    e = .returned (.tuple #[]) ∧ Rd w' B b (rdPart k t r) ∧ Below B w w' := by
  by_cases hl : 64 ≤ r.out.length
  · obtain ⟨c0, c1, c3, ⟨p, c, c2⟩, cf⟩ := h.cells
    go_enter Try.func83, Try.ntmps83
    go_wp2_with fail
    refine (wrong_calls B b r 11 w h).mono ?_
    rintro e w1 ⟨rfl, h1, hw1⟩
    clear c0 c1 c2 c3 cf
    obtain ⟨c0, c1, c3, ⟨p, c, c2⟩, cf⟩ := h1.cells
    have hbad : (rdWrong 11 r).bad ≠ 0 := by rw [rdWrong]; split <;> simp_all
    go_wp2_with fail
    go_end0
    refine ⟨rfl, ?_, hw1.below h.hB (fun k hk e => by have := h.hb; omega)⟩
    rw [rdPart]
    simp only [if_pos hl, if_neg hbad]
    exact h1
  · have h' := h
    obtain ⟨p, c, hb, ho, hne, hB, hs5, ho64⟩ := h'
    have hc := hb.cell
    have hf := hb.frozen
    have hblt := hb.lt
    go_enter Try.func83, Try.ntmps83
    by_cases hbad : r.bad = 0
    · have hbad' : rdPart k t r = { r with out := r.out ++ [⟨k, t⟩] } := by rw [rdPart]; simp only [if_neg hl, if_pos hbad]
      rw [hbad'] 
      clear hbad'
      have hne' := Lib.hid hne
      clear hne
      go_wp2_with (refine wpl_appendk _ (.tmp 23) (.tmp 27) 50 57 rfl rfl 2 24 Try.underlying50 info_part (by decide) (by decide) p r.out.length c (r.out.flatMap partCells) B w.heap.size [.int .i64 k, .string ⟨t.toArray⟩] rfl rfl rfl ?h1 ?h2 ?h3 ?h4 (by omega) ?h5)
      case h1 => exact ho.alloc _
      case h2 => simp; omega
      case h3 => exact two_new w _ _ _
      case h4 => intro u hu; simp at hu; rcases hu with rfl | rfl <;> rfl
      case h5 =>
        intro g c' w1 hown hupd hg
        have hb1 := hupd.blk (fun e => hne'.out e.symm) (Blk.alloc hb _)
        have hc1 := hb1.cell
        have hf1 := hb1.frozen
        clear hc hf
        go_wp2_with fail
        go_end0
        have hgb : (Value.slice (some ⟨g, 0, none⟩) (r.out.length + 1) c').ownBlock ≠ some b := by
          rcases hg with hg | hg
          · rw [hg] at hne'; exact fun e => hne'.out (by simpa [Value.ownBlock] using e)
          · simp [Value.ownBlock]; omega
        refine ⟨rfl, ⟨some ⟨g, 0, none⟩, c', ?_, ?_, ?_, hB, hs5, ?_⟩, ?_⟩
        · have := hb1.setCell 2 (.slice (some ⟨g, 0, none⟩) (r.out.length + 1) c')
          simpa using this
        · have := ownsRow_setCell_off hown hgb (a := ⟨b, 2, none⟩) (.slice (some ⟨g, 0, none⟩) (r.out.length + 1) c')
          simpa [partCells, List.flatMap_append] using this
        · simpa using hgb
        · simp; omega
        · refine below_set ?_ hB _ _
          exact hupd.below_own (ho.alloc _) (by simp; omega) ((Below.refl B w).alloc (by omega) _)
    · go_wp2_with fail
      go_end0
      refine ⟨rfl, ?_, Below.refl _ _⟩
      rw [rdPart]
      simp only [if_neg hl, if_neg hbad]
      exact h

theorem info_byte : (Try.prog.info? 5).map (fun i => (i.zero.map (fun z => z.cells.size), i.size, i.bytes)) = some (some 1, 1, 1) := by kernel_rfl
def u8s (l : List UInt8) : List Value := l.map fun c => .int .u8 c.toNat

theorem wordOf_cons {x : UInt8} {t : List UInt8} (h : letter x ≠ 0) : wordOf (x :: t) = letter x :: wordOf t := by rw [wordOf, if_neg h]
theorem wordOf_stop {x : UInt8} {t : List UInt8} (h : letter x = 0) : wordOf (x :: t) = [] := by rw [wordOf, if_pos h]
theorem wordRest_cons {x : UInt8} {t : List UInt8} (h : letter x ≠ 0) : wordRest (x :: t) = wordRest t := by rw [wordRest, if_neg h]
theorem wordRest_stop {x : UInt8} {t : List UInt8} (h : letter x = 0) : wordRest (x :: t) = x :: t := by rw [wordRest, if_pos h]
theorem u8_zero {x : UInt8} (h : x ≠ 0) : ¬ ((x.toNat : Int) = 0) := u8_ne (n := 0) h (by omega)

theorem conv_bytes {w : World} {B : Nat} {p : Option Addr} {c : Nat} {acc : List UInt8} (h : w.ownsRow B 5 1 (.slice p acc.length c) acc.length (u8s acc)) :
    (convert 59 9 (.slice p acc.length c)).run Try.prog w = .ok (.string ⟨acc.toArray⟩) w := by
  obtain ⟨p', cap', hv, hp0, hp1⟩ := own_form h
  simp only [Value.slice.injEq] at hv
  obtain ⟨rfl, _, rfl⟩ := hv
  rcases p with _ | a
  · have := hp0 rfl
    have e : acc = [] := List.eq_nil_of_length_eq_zero this
    subst e
    rw [run_convert_bytes_string w _ _ _ none _ c Try.underlying59 Try.underlying5 Try.underlying9]
    rfl
  · have ea := hp1 a rfl
    rw [ea] at h ⊢
    refine run_convert_bytes_back w _ _ _ _ c acc Try.underlying59 Try.underlying5 Try.underlying9 ?_
    intro j hj
    have := h.cells (g := a.block) rfl j (.int .u8 acc[j].toNat) (by simp [u8s, hj])
    exact this

set_option maxRecDepth 100000 in
set_option maxHeartbeats 400000 in
theorem word_calls (B b : Nat) (r : R) (w : World) (h : Rd w B b r) : Calls Try.prog 114 #[.pointer (some ⟨b, 0, none⟩)] w fun e w' =>
    e = .returned (.tuple #[]) ∧ Rd w' B b (rdWord r) ∧ Below B w w' := by
  have h' := h
  obtain ⟨p, c, hb, ho, hne, hB, hs5, ho64⟩ := h'
  have hblt := hb.lt
  go_enter Try.func114, Try.ntmps114
  go_wp2
  go_loopw [2] (fun v wr => ∃ (s acc : List UInt8) (pw : Option Addr) (cw : Nat), v = .slice pw acc.length cw ∧ wordOf r.s = acc ++ wordOf s ∧ wordRest r.s = wordRest s ∧ acc.length + s.length ≤ 512 ∧
    Blk wr b [.string ⟨s.toArray⟩, .int .i64 r.deep, .slice p r.out.length c, .int .i64 r.bad] 102 ∧ wr.ownsRow B 57 2 (.slice p r.out.length c) r.out.length (r.out.flatMap partCells) ∧
    wr.ownsRow w.heap.size 5 1 (.slice pw acc.length cw) acc.length (u8s acc) ∧ Below B w wr ∧ w.heap.size ≤ wr.heap.size) (fun _ wr => cellLen wr b)
  case atStart => exact ⟨r.s, [], none, 0, rfl, rfl, rfl, by simpa using hs5, hb, ho, World.ownsRow_nil _ _ _ _, Below.refl _ _, Nat.le_refl _⟩
  case round =>
    obtain ⟨s, acc, pw, cw, rfl, hw1, hw2, hl, hbr, hor, how, hbw, hsz⟩ := hrel
    have hc := hbr.cell
    have hf := hbr.frozen
    have hw1 := Lib.hid hw1
    have hw2 := Lib.hid hw2
    have hRd : wordRest r.s = s → Rd wr B b { r with s := wordRest r.s } := fun e => ⟨p, c, by rw [e]; exact hbr, hor, hne, hB, by simp only [e]; omega, ho64⟩
    have hstr := conv_bytes how
    have hwd : ∀ (w1 : World) (r1 : R), wordOf r.s = acc → Rd w1 B b r1 → Below B w w1 → r1 = (if 12 < acc.length then rdWrong 6 { r with s := wordRest r.s } else { r with s := wordRest r.s }) →
        Calls Try.prog 83 #[.pointer (some ⟨b, 0, none⟩), .int .i64 1, .string ⟨acc.toArray⟩] w1 fun e w' => e = .returned (.tuple #[]) ∧ Rd w' B b (rdWord r) ∧ Below B w w' := by
      intro w1 r1 e1 hr1 hb1 e2
      refine (part_calls B b r1 1 acc w1 hr1).mono ?_
      rintro e w2 ⟨rfl, h2, hb2⟩
      refine ⟨rfl, ?_, hb1.trans hb2⟩
      rw [rdWord, e1, ← e2]
      exact h2
    have hwrong : wordRest r.s = s → Calls Try.prog 53 #[.pointer (some ⟨b, 0, none⟩), .int .i64 6] wr fun e w' => e = .returned (.tuple #[]) ∧ Rd w' B b (rdWrong 6 { r with s := wordRest r.s }) ∧ Below B w w' ∧
        (convert 59 9 (.slice pw acc.length cw)).run Try.prog w' = .ok (.string ⟨acc.toArray⟩) w' := by
      intro e0
      refine (wrong_calls B b _ 6 wr (hRd e0)).mono ?_
      rintro e w2 ⟨rfl, h2, hu2⟩
      refine ⟨rfl, h2, hbw.trans (hu2.below (by have := (hRd e0).hB; omega) (fun k hk e => by omega)), conv_bytes (hu2.owns how fun k hk e => ?_)⟩
      have := own_ge how hk
      omega
    rcases s with _ | ⟨x, t⟩
    · have e1 : wordOf r.s = acc := by rw [hw1.out]; simp [wordOf]
      have e2 : wordRest r.s = [] := by rw [hw2.out]; simp [wordRest]
      by_cases h12 : 12 < acc.length
      · clear hRd
        go_wp2_with fail
        refine (hwrong e2).mono ?_
        rintro e w2 ⟨rfl, h2, hb2, hstr2⟩
        clear hwrong
        go_wp2_with fail
        refine (hwd w2 _ e1 h2 hb2 (by rw [if_pos h12])).mono ?_
        rintro e w3 ⟨rfl, h3, hb3⟩
        go_wp2_with fail
        go_end0
        exact ⟨rfl, h3, hb3⟩
      · go_wp2_with fail
        refine (hwd wr _ e1 (hRd e2) hbw (by rw [if_neg h12])).mono ?_
        rintro e w3 ⟨rfl, h3, hb3⟩
        go_wp2_with fail
        go_end0
        exact ⟨rfl, h3, hb3⟩
    · by_cases hx : letter x = 0
      · have e1 : wordOf r.s = acc := by rw [hw1.out, wordOf_stop hx]; simp
        have e2 : wordRest r.s = x :: t := by rw [hw2.out, wordRest_stop hx]
        by_cases h12 : 12 < acc.length
        · go_wp2_with (go_at_call 24; refine (letter_calls x wr).mono ?_; rintro e w2 ⟨rfl, rfl⟩; rw [hx])
          refine (hwrong e2).mono ?_
          rintro e w2 ⟨rfl, h2, hb2, hstr2⟩
          clear hwrong
          go_wp2_with fail
          refine (hwd w2 _ e1 h2 hb2 (by rw [if_pos h12])).mono ?_
          rintro e w3 ⟨rfl, h3, hb3⟩
          go_wp2_with fail
          go_end0
          exact ⟨rfl, h3, hb3⟩
        · go_wp2_with (go_at_call 24; refine (letter_calls x wr).mono ?_; rintro e w2 ⟨rfl, rfl⟩; rw [hx])
          refine (hwd wr _ e1 (hRd e2) hbw (by rw [if_neg h12])).mono ?_
          rintro e w3 ⟨rfl, h3, hb3⟩
          go_wp2_with fail
          go_end0
          exact ⟨rfl, h3, hb3⟩
      · have hx1 := u8_zero hx
        clear hwd hwrong hRd hstr
        go_wp2_with (first
          | (go_at_call 24; refine (letter_calls x wr).mono ?_; rintro e w2 ⟨rfl, rfl⟩)
          | (refine wpl_appendk _ (.tmp 17) (.tmp 24) 59 5 rfl rfl 1 1 Try.underlying59 info_byte (by decide) (by decide) pw acc.length cw (u8s acc) w.heap.size wr.heap.size [.int .u8 (letter x).toNat] rfl rfl rfl ?h1 ?h2 ?h3 ?h4 (by omega) ?h5))
        case h1 => exact how.alloc _
        case h2 => simp; omega
        case h3 => exact one_new wr _ _
        case h4 => intro u hu; simp at hu; rcases hu with rfl | rfl <;> rfl
        case h5 =>
          intro g c' w1 hown hupd hg
          have hnb : ∀ k, (Value.slice pw acc.length cw).ownBlock = some k → w.heap.size ≤ k := fun k hk => own_ge how hk
          have hb1 := hupd.blk (fun e => by have := hnb b e.symm; omega) (Blk.alloc hbr _)
          have ho1 := hupd.owns (hor.alloc _) (fun k hk e => by have := hnb k e.symm; have := (ho.lt k hk).2; omega)
          have hc1 := hb1.cell
          have hf1 := hb1.frozen
          have hbw1 := hupd.below_own ((owns_base how (by have := h.hB; omega)).alloc _) (by simp; have := h.hB; omega) (hbw.alloc (by have := h.hB; omega) _)
          have hsz1 : w.heap.size ≤ w1.heap.size := by have := hupd.size; simp at this; omega
          clear hc hf
          go_wp2_with fail
          go_roundw
          case rel =>
            refine ⟨t, acc ++ [letter x], some ⟨g, 0, none⟩, c', by simp, ?_, ?_, ?_, ?_, ?_, ?_, ?_, ?_⟩
            · rw [hw1.out, wordOf_cons hx]; simp
            · rw [hw2.out, wordRest_cons hx]
            · simp at hl ⊢; omega
            · exact hb1.setCell 0 _
            · exact ownsRow_setCell_off ho1 hne _
            · have := ownsRow_setCell_off (a := ⟨b, 0, none⟩) hown ?_ (.string ⟨t.toArray⟩)
              · simpa [u8s] using this
              · rcases hg with hg | hg
                · intro e
                  have := hnb b (by rw [hg]; exact e)
                  omega
                · simp [Value.ownBlock]; omega
            · exact below_set hbw1 hB _ _
            · simpa [World.setCell] using hsz1
          case measure =>
            have m1 : cellLen (w1.setCell ⟨b, 0, none⟩ (.string ⟨t.toArray⟩)) b = t.length := cellLen_str (by rw [(hb1.setCell 0 _).cell]; rfl)
            have m2 : cellLen wr b = (x :: t).length := cellLen_str (by rw [hbr.cell]; rfl)
            rw [m1, m2]
            simp
end Go.Proofs.Ytpobpijjpbggoaa
