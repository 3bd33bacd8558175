/- package query: reading a query: or, and, factor, the whole. -/
import Derived.Test.YtpobpijjpbggoaaQuery1
set_option linter.unusedSimpArgs false
set_option linter.unusedVariables false
namespace Go.Proofs.Ytpobpijjpbggoaa
open Go.RowKit Go.Ten Go.Ten.Qy

def meas (w : World) (b : Nat) : Nat := match w.cell? ⟨b, 3, none⟩ with | some (.int _ x) => if x = 0 then cellLen w b + 1 else 0 | _ => 0
theorem meas_rd {w : World} {B b : Nat} {r : R} (h : Rd w B b r) : meas w b = if r.bad = 0 then r.s.length + 1 else 0 := by
  obtain ⟨c0, c1, c3, ⟨p, c, c2⟩, cf⟩ := h.cells
  unfold meas
  rw [c3, cellLen_str c0]

structure FC (B b : Nat) (F : R → R) (dl : Int) : Prop where
  calls : ∀ w r, Rd w B b r → r.bad = 0 → Iv dl r → Calls Try.prog 105 #[.pointer (some ⟨b, 0, none⟩)] w fun e w' => e = .returned (.tuple #[]) ∧ Rd w' B b (F r) ∧ Below B w w'
  ok : FOK F dl

set_option maxRecDepth 100000 in
set_option maxHeartbeats 1000000 in
theorem and_calls (B b : Nat) (F : R → R) (dl : Int) (hF : FC B b F dl) (r : R) (w : World) (h : Rd w B b r) (hbad : r.bad = 0) (hi : Iv dl r) :
    Calls Try.prog 81 #[.pointer (some ⟨b, 0, none⟩)] w fun e w' => e = .returned (.tuple #[]) ∧ Rd w' B b (rdAnd F r) ∧ Below B w w' := by
  go_enter Try.func81, Try.ntmps81
  go_wp2_with fail
  refine (hF.calls w r h hbad hi).mono ?_
  rintro e w1 ⟨rfl, h1, hb1⟩
  have hi1 := hF.ok r hbad hi
  go_wp2_with fail
  go_loopw [] (fun wr => ∃ (r' : R) (n : Nat), Rd wr B b r' ∧ Iv dl r' ∧ (r'.bad = 0 → r'.s.length < n) ∧ rdAndLoop F n r' = rdAnd F r ∧ Below B w wr) (fun wr => meas wr b)
  case atStart => exact ⟨F r, _, h1, hi1.1, fun _ => Nat.lt_succ_self _, rfl, hb1⟩
  case round =>
    obtain ⟨r', n, hr, hi', hn, hl, hbw⟩ := hrel
    have hl := Lib.hid hl
    obtain ⟨c0, c1, c3, ⟨p, c, c2⟩, cf⟩ := hr.cells
    by_cases hb : r'.bad = 0
    · have hn1 := hn hb
      obtain ⟨m, rfl⟩ : ∃ m, n = m + 1 := ⟨n - 1, by omega⟩
      clear hn
      rw [hb] at c3
      go_wp2_with fail
      refine (peek_calls B b r' wr hr).mono ?_
      rintro e w2 ⟨rfl, h2, hb2⟩
      clear c0 c1 c2 c3 cf
      have hstep := hl.out
      rw [rdAndLoop, if_pos hb] at hstep
      have hstep := Lib.hid hstep
      rcases hk : skipB r'.s with _ | ⟨x, t⟩
      · have e := hstep.out
        rw [hk] at e
        simp only at e
        clear hstep
        go_wp2_with fail
        (try simp only [Exit.inBlock, Exit.then]); refine bodyPost_ret (results_none rfl _ _ _) rfl ?_
        exact ⟨rfl, e ▸ h2, hbw.trans hb2⟩
      · have e := hstep.out
        rw [hk] at e
        simp only at e
        clear hstep
        simp only [headB, List.headD_cons]
        by_cases hx : x = 124 ∨ x = 41
        · rw [if_pos hx] at e
          have e := Lib.hid e
          have hd : ∀ (Q : Prop), Q → Q := fun _ h => h
          rcases hx with rfl | rfl
          · go_wp2_with fail
            (try simp only [Exit.inBlock, Exit.then]); refine bodyPost_ret (results_none rfl _ _ _) rfl ?_
            exact ⟨rfl, e.out ▸ h2, hbw.trans hb2⟩
          · go_wp2_with fail
            (try simp only [Exit.inBlock, Exit.then]); refine bodyPost_ret (results_none rfl _ _ _) rfl ?_
            exact ⟨rfl, e.out ▸ h2, hbw.trans hb2⟩
        · rw [if_neg hx] at e
          have e := Lib.hid e
          have hx1 : ((x.toNat : Int) == 124) = false := by simpa using u8_ne (n := 124) (x := x) (fun h => hx (.inl h)) (by omega)
          have hx2 : ((x.toNat : Int) == 41) = false := by simpa using u8_ne (n := 41) (x := x) (fun h => hx (.inr h)) (by omega)
          go_wp2_with fail
          have t1 := tk_keeps 38 (pk r')
          refine (take_calls B b (pk r') 38 w2 h2).mono ?_
          rintro e w3 ⟨rfl, h3, hb3⟩
          go_wp2_with fail
          have f3 := hF.ok (tk 38 (pk r')).1 (by rw [t1.1]; exact hb) (hi'.pk.tk 38)
          refine (hF.calls w3 _ h3 (by rw [t1.1]; exact hb) (hi'.pk.tk 38)).mono ?_
          rintro e w4 ⟨rfl, h4, hb4⟩
          go_wp2_with fail
          refine (part_calls B b _ 2 [] w4 h4).mono ?_
          rintro e w5 ⟨rfl, h5, hb5⟩
          go_wp2_with fail
          have k5 := rdPart_keeps 2 [] (F (tk 38 (pk r')).1)
          have hp := pk_le r'
          have hlt : (rdPart 2 [] (F (tk 38 (pk r')).1)).bad = 0 → (rdPart 2 [] (F (tk 38 (pk r')).1)).s.length < r'.s.length := by
            intro hh
            have hf : (F (tk 38 (pk r')).1).bad = 0 := by
              by_cases hq : (F (tk 38 (pk r')).1).bad = 0
              · exact hq
              · rw [k5.2.2 hq] at hh; exact absurd hh hq
            have := f3.2.2 hf
            rw [k5.1]
            omega
          go_roundw
          case rel => exact ⟨_, m, h5, f3.1.part 2 [], fun hh => by have := hlt hh; omega, e.out, (((hbw.trans hb2).trans hb3).trans hb4).trans hb5⟩
          case measure =>
            rw [meas_rd h5, meas_rd hr, if_pos hb]
            split
            · rename_i hh
              have := hlt hh
              omega
            · omega
    · go_wp2_with fail
      go_end0
      have := hl.out
      rw [rdAndLoop_bad hb] at this
      exact ⟨rfl, this ▸ hr, hbw⟩

set_option maxRecDepth 100000 in
set_option maxHeartbeats 1000000 in
theorem or_calls (B b : Nat) (F : R → R) (dl : Int) (hF : FC B b F dl) (r : R) (w : World) (h : Rd w B b r) (hbad : r.bad = 0) (hi : Iv dl r) :
    Calls Try.prog 51 #[.pointer (some ⟨b, 0, none⟩)] w fun e w' => e = .returned (.tuple #[]) ∧ Rd w' B b (rdOr F r) ∧ Below B w w' := by
  go_enter Try.func51, Try.ntmps51
  go_wp2_with fail
  refine (and_calls B b F dl hF r w h hbad hi).mono ?_
  rintro e w1 ⟨rfl, h1, hb1⟩
  have hok := rdAnd_ok hF.ok
  have hi1 := hok r hbad hi
  go_wp2_with fail
  go_loopw [] (fun wr => ∃ (r' : R) (n : Nat), Rd wr B b r' ∧ Iv dl r' ∧ (r'.bad = 0 → r'.s.length < n) ∧ rdOrLoop F n r' = rdOr F r ∧ Below B w wr) (fun wr => meas wr b)
  case atStart => exact ⟨rdAnd F r, _, h1, hi1.1, fun _ => Nat.lt_succ_self _, rfl, hb1⟩
  case round =>
    obtain ⟨r', n, hr, hi', hn, hl, hbw⟩ := hrel
    have hl := Lib.hid hl
    obtain ⟨c0, c1, c3, ⟨p, c, c2⟩, cf⟩ := hr.cells
    by_cases hb : r'.bad = 0
    · have hn1 := hn hb
      obtain ⟨m, rfl⟩ : ∃ m, n = m + 1 := ⟨n - 1, by omega⟩
      clear hn
      rw [hb] at c3
      go_wp2_with fail
      have t1 := tk_keeps 124 r'
      refine (take_calls B b r' 124 wr hr).mono ?_
      rintro e w2 ⟨rfl, h2, hb2⟩
      clear c0 c1 c2 c3 cf
      have hstep := hl.out
      rw [rdOrLoop, if_pos hb] at hstep
      by_cases hk : (tk 124 r').2 = true
      · rw [if_pos hk] at hstep
        have hstep := Lib.hid hstep
        rw [hk]
        go_wp2_with fail
        have f3 := hok (tk 124 r').1 (by rw [t1.1]; exact hb) (hi'.tk 124)
        refine (and_calls B b F dl hF _ w2 h2 (by rw [t1.1]; exact hb) (hi'.tk 124)).mono ?_
        rintro e w4 ⟨rfl, h4, hb4⟩
        go_wp2_with fail
        refine (part_calls B b _ 3 [] w4 h4).mono ?_
        rintro e w5 ⟨rfl, h5, hb5⟩
        go_wp2_with fail
        have k5 := rdPart_keeps 3 [] (rdAnd F (tk 124 r').1)
        have hlt : (rdPart 3 [] (rdAnd F (tk 124 r').1)).bad = 0 → (rdPart 3 [] (rdAnd F (tk 124 r').1)).s.length < r'.s.length := by
          intro hh
          have := t1.2.2.2.2 hk
          rw [k5.1]
          omega
        go_roundw
        case rel => exact ⟨_, m, h5, f3.1.part 3 [], fun hh => by have := hlt hh; omega, hstep.out, ((hbw.trans hb2).trans hb4).trans hb5⟩
        case measure =>
          rw [meas_rd h5, meas_rd hr, if_pos hb]
          split
          · rename_i hh
            have := hlt hh
            omega
          · omega
      · rw [if_neg hk] at hstep
        have hstep := Lib.hid hstep
        rw [Bool.not_eq_true] at hk
        rw [hk]
        go_wp2_with fail
        go_end0
        exact ⟨rfl, hstep.out ▸ h2, hbw.trans hb2⟩
    · go_wp2_with fail
      go_end0
      have := hl.out
      rw [rdOrLoop_bad hb] at this
      exact ⟨rfl, this ▸ hr, hbw⟩

set_option maxRecDepth 100000 in
set_option maxHeartbeats 1000000 in
theorem factor_deepest (B b : Nat) (r : R) (w : World) (h : Rd w B b r) (hbad : r.bad = 0) (hd : r.deep = 64) :
    Calls Try.prog 105 #[.pointer (some ⟨b, 0, none⟩)] w fun e w' => e = .returned (.tuple #[]) ∧ Rd w' B b (rdFactor 0 r) ∧ Below B w w' := by
  obtain ⟨c0, c1, c3, ⟨p, c, c2⟩, cf⟩ := h.cells
  rw [hd] at c1
  have h1 := h.setDeep (r.deep + 1)
  rw [hd] at h1
  have hB := h.hb
  obtain ⟨d0, d1, d3, ⟨p', c', d2⟩, df⟩ := h1.cells
  simp only at d1
  go_enter Try.func105, Try.ntmps105
  go_wp2_with fail
  refine (wrong_calls B b _ 11 _ h1).mono ?_
  rintro e w2 ⟨rfl, h2, hu2⟩
  have e0 : rdWrong 11 { r with deep := 64 + 1 } = rdFactor 0 r := by rw [rdFactor, hd]
  have hb2 : (rdFactor 0 r).bad = 11 := by rw [rdFactor, rdWrong, if_pos (show ({ r with deep := r.deep + 1 } : R).bad = 0 from hbad)]
  rw [e0] at h2
  clear c0 c1 c2 c3 cf d0 d1 d2 d3 df
  obtain ⟨c0, c1, c3, ⟨p, c, c2⟩, cf⟩ := h2.cells
  rw [hb2] at c3
  go_wp2_with fail
  (try simp only [Exit.inBlock, Exit.then]); refine bodyPost_ret (results_none rfl _ _ _) rfl ?_
  refine ⟨rfl, h2, Below.trans (below_set (Below.refl B w) hB 1 _) (hu2.below ?_ fun k hk e => by omega)⟩
  have := h.hB
  simpa [World.setCell] using this

set_option maxRecDepth 100000 in
set_option maxHeartbeats 2000000 in
theorem factor_step (B b d : Nat) (dl : Int) (hdl : 0 ≤ dl) (hdl2 : dl < 64) (hF : FC B b (rdFactor d) (dl + 1)) (r : R) (w : World) (h : Rd w B b r) (hbad : r.bad = 0) (hi : Iv dl r) :
    Calls Try.prog 105 #[.pointer (some ⟨b, 0, none⟩)] w fun e w' => e = .returned (.tuple #[]) ∧ Rd w' B b (rdFactor (d + 1) r) ∧ Below B w w' := by
  obtain ⟨c0, c1, c3, ⟨p, c, c2⟩, cf⟩ := h.cells
  have hd := hi.1 hbad
  have h1 := h.setDeep (dl + 1)
  have hB := h.hb
  rw [hd] at c1
  rw [hbad] at c3
  have hstep : rdFactor (d + 1) r = { facBody (rdFactor d) { r with deep := dl + 1 } with deep := (facBody (rdFactor d) { r with deep := dl + 1 }).deep - 1 } := by
    rw [rdFactor, if_pos hbad, hd]
  have hi1 : Iv (dl + 1) { r with deep := dl + 1 } := ⟨fun _ => rfl, by simp, by simp; omega⟩
  have hb0 : Below B w (w.setCell ⟨b, 1, none⟩ (.int .i64 (dl + 1))) := below_set (Below.refl B w) hB 1 _
  have hok := facBody_ok hF.ok { r with deep := dl + 1 } hbad hi1
  rw [hstep]
  clear hstep
  generalize hr1 : ({ r with deep := dl + 1 } : R) = r1 at *
  have hbad1 : r1.bad = 0 := by rw [← hr1]; exact hbad
  generalize hfb : facBody (rdFactor d) r1 = fb at *
  rw [facBody] at hfb
  have hfb := Lib.hid hfb
  have hok := Lib.hid hok
  go_enter Try.func105, Try.ntmps105
  go_wp2_with fail
  refine (peek_calls B b r1 _ h1).mono ?_
  rintro e w2 ⟨rfl, h2, hb2⟩
  clear c0 c1 c2 c3 cf
  have hb2 := hb0.trans hb2
  clear h1 hb0
  have hi2 : Iv (dl + 1) (pk r1) := hi1.pk
  go_wp2_with fail
  have t1 := tk_keeps 33 r1
  refine (take_calls B b (pk r1) 33 w2 h2).mono ?_
  rintro e w3 ⟨rfl, h3, hb3⟩
  have hb3 := hb2.trans hb3
  rw [tk_pk] at h3 ⊢
  by_cases k1 : (tk 33 r1).2 = true
  · have e1 := hfb.out
    rw [if_pos k1] at e1
    have e1 := Lib.hid e1
    rw [k1]
    go_wp2_with fail
    refine (hF.calls w3 _ h3 (by rw [t1.1]; exact hbad1) (hi1.tk 33)).mono ?_
    rintro e w4 ⟨rfl, h4, hb4⟩
    go_wp2_with fail
    refine (part_calls B b _ 4 [] w4 h4).mono ?_
    rintro e w5 ⟨rfl, h5, hb5⟩
    rw [e1.out] at h5
    have hb5 := ((hb3.trans hb4).trans hb5)
    obtain ⟨c0, c1, c3, ⟨p, c, c2⟩, cf⟩ := h5.cells
    have hrange := hok.out.1.2
    go_wp2_with fail
    go_end0
    exact ⟨rfl, h5.setDeep _, below_set hb5 hB 1 _⟩
  · have e1 := hfb.out
    rw [if_neg k1] at e1
    rw [tk_false k1] at h3
    rw [Bool.not_eq_true] at k1
    rw [k1]
    have t2 := tk_keeps 40 r1
    by_cases k2 : (tk 40 r1).2 = true
    · rw [if_pos k2] at e1
      have e1 := Lib.hid e1
      clear hfb
      go_wp2_with fail
      refine (take_calls B b (pk r1) 40 w3 h3).mono ?_
      rintro e w4 ⟨rfl, h4, hb4⟩
      have hb4 := hb3.trans hb4
      rw [tk_pk] at h4 ⊢
      rw [k2]
      go_wp2_with fail
      refine (or_calls B b _ (dl + 1) hF (tk 40 r1).1 w4 h4 (by rw [t2.1]; exact hbad1) (hi1.tk 40)).mono ?_
      rintro e w5 ⟨rfl, h5, hb5⟩
      have hb5 := hb4.trans hb5
      clear h2 h3 h4
      generalize rdOr (rdFactor d) (tk 40 r1).1 = r4 at *
      obtain ⟨c0, c1, c3, ⟨p, c, c2⟩, cf⟩ := h5.cells
      by_cases hb : r4.bad = 0
      · have e1 := e1.out
        simp only [if_pos hb] at e1
        rw [hb] at c3
        by_cases k3 : (tk 41 r4).2 = true
        · rw [if_pos k3] at e1
          have e1 := Lib.hid e1
          go_wp2_with fail
          refine (take_calls B b r4 41 w5 h5).mono ?_
          rintro e w6 ⟨rfl, h6, hb6⟩
          have hb6 := hb5.trans hb6
          rw [k3]
          rw [e1.out] at h6
          clear c0 c1 c2 c3 cf
          obtain ⟨c0, c1, c3, ⟨p, c, c2⟩, cf⟩ := h6.cells
          have hrange := hok.out.1.2
          go_wp2_with fail
          go_end0
          exact ⟨rfl, h6.setDeep _, below_set hb6 hB 1 _⟩
        · rw [if_neg k3] at e1
          have e1 := Lib.hid e1
          go_wp2_with fail
          refine (take_calls B b r4 41 w5 h5).mono ?_
          rintro e w6 ⟨rfl, h6, hb6⟩
          have hb6 := hb5.trans hb6
          rw [Bool.not_eq_true] at k3
          rw [k3]
          clear c0 c1 c2 c3 cf
          go_wp2_with fail
          refine (wrong_calls B b _ 7 w6 h6).mono ?_
          rintro e w7 ⟨rfl, h7, hu7⟩
          have hb7 := hb6.trans (hu7.below h6.hB fun k hk e => by omega)
          rw [e1.out] at h7
          obtain ⟨c0, c1, c3, ⟨p, c, c2⟩, cf⟩ := h7.cells
          have hrange := hok.out.1.2
          go_wp2_with fail
          go_end0
          exact ⟨rfl, h7.setDeep _, below_set hb7 hB 1 _⟩
      · have e1 := e1.out
        simp only [if_neg hb] at e1
        have e1 := Lib.hid e1
        have e2 := e1.out
        subst e2
        have hrange := hok.out.1.2
        go_wp2_with fail
        go_end0
        exact ⟨rfl, h5.setDeep _, below_set hb5 hB 1 _⟩
    · rw [if_neg k2] at e1
      clear hfb
      have k2' := Bool.not_eq_true _ ▸ k2
      have e1 := Lib.hid e1
      go_wp2_with fail
      refine (take_calls B b (pk r1) 40 w3 h3).mono ?_
      rintro e w4 ⟨rfl, h4, hb4⟩
      have hb4 := hb3.trans hb4
      rw [tk_pk] at h4 ⊢
      rw [tk_false k2] at h4
      rw [k2']
      clear h2 h3
      by_cases k3 : letter (headB (skipB r1.s)) ≠ 0
      · have e1 := e1.out
        rw [if_pos k3] at e1
        have e1 := Lib.hid e1
        have hx1 := u8_zero k3
        go_wp2_with (go_at_call 24; refine (letter_calls (headB (skipB r1.s)) _).mono ?_; rintro e w5 ⟨rfl, rfl⟩)
        refine (word_calls B b (pk r1) _ h4).mono ?_
        rintro e w6 ⟨rfl, h6, hb6⟩
        have hb6 := hb4.trans hb6
        rw [e1.out] at h6
        obtain ⟨c0, c1, c3, ⟨p, c, c2⟩, cf⟩ := h6.cells
        have hrange := hok.out.1.2
        go_wp2_with fail
        go_end0
        exact ⟨rfl, h6.setDeep _, below_set hb6 hB 1 _⟩
      · have e1 := e1.out
        rw [if_neg k3] at e1
        have e1 := Lib.hid e1
        have hx1 : letter (headB (skipB r1.s)) = 0 := by simpa using k3
        go_wp2_with (go_at_call 24; refine (letter_calls (headB (skipB r1.s)) _).mono ?_; rintro e w5 ⟨rfl, rfl⟩; rw [hx1])
        refine (wrong_calls B b _ 7 _ h4).mono ?_
        rintro e w7 ⟨rfl, h7, hu7⟩
        have hb7 := hb4.trans (hu7.below h4.hB fun k hk e => by omega)
        rw [e1.out] at h7
        obtain ⟨c0, c1, c3, ⟨p, c, c2⟩, cf⟩ := h7.cells
        have hrange := hok.out.1.2
        go_wp2_with fail
        go_end0
        exact ⟨rfl, h7.setDeep _, below_set hb7 hB 1 _⟩

theorem factor_fc (B b : Nat) : ∀ (d : Nat) (dl : Int), 0 ≤ dl → dl + d = 64 → FC B b (rdFactor d) dl := by
  intro d
  induction d with
  | zero =>
    intro dl h0 h1
    refine ⟨fun w r h hb hi => ?_, rdFactor_ok 0 dl⟩
    exact factor_deepest B b r w h hb (by rw [hi.1 hb]; simpa using h1)
  | succ d ih =>
    intro dl h0 h1
    refine ⟨fun w r h hb hi => ?_, rdFactor_ok _ dl⟩
    exact factor_step B b d dl h0 (by omega) (ih (dl + 1) (by omega) (by omega)) r w h hb hi
end Go.Proofs.Ytpobpijjpbggoaa
