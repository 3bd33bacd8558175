/- package query: Text. -/
import Derived.Test.YtpobpijjpbggoaaQuery4
set_option linter.unusedSimpArgs false
set_option linter.unusedVariables false
namespace Go.Proofs.Ytpobpijjpbggoaa
open Go.RowKit Go.Ten Go.Ten.Qy

def strs (l : List (List UInt8)) : List Value := l.map fun s => .string ⟨s.toArray⟩
theorem info_str : (Try.prog.info? 9).map (fun i => (i.zero.map (fun z => z.cells.size), i.size, i.bytes)) = some (some 1, 1, 16) := by kernel_rfl

/-- What a part takes from the stack and what it leaves. -/
theorem step_len {p : Part} {st : List (List UInt8)} (h0 : ¬ takesQ p < 0) (h1 : ¬ (st.length : Int) < takesQ p) : ((textStep p st).length : Int) = st.length + (1 - takesQ p) := by
  unfold takesQ at *
  unfold textStep
  by_cases k1 : p.kind = 1
  · by_cases ht : isTerm p.term = true
    · simp [k1, ht]
    · simp [k1, ht] at h0
  · by_cases k4 : p.kind = 4
    · by_cases ht : p.term = []
      · simp [k1, k4, ht] at h1 ⊢
        rcases st with _ | ⟨x, r⟩
        · simp at h1
        · simp
      · simp [k1, k4, ht] at h0
    · by_cases k2 : p.kind = 2
      · by_cases ht : p.term = []
        · simp [k1, k4, k2, ht] at h1 ⊢
          rcases st with _ | ⟨x, _ | ⟨y, r⟩⟩
          · simp at h1
          · simp at h1
          · simp; omega
        · simp [k1, k4, k2, ht] at h0
      · by_cases k3 : p.kind = 3
        · by_cases ht : p.term = []
          · simp [k1, k4, k2, k3, ht] at h1 ⊢
            rcases st with _ | ⟨x, _ | ⟨y, r⟩⟩
            · simp at h1
            · simp at h1
            · simp; omega
          · simp [k1, k4, k2, k3, ht] at h0
        · simp [k1, k4, k2, k3] at h0

theorem cat_mk (x y : List UInt8) : (ByteArray.mk x.toArray ++ ByteArray.mk y.toArray) = ByteArray.mk (x ++ y).toArray := ByteArray.mk_append_mk x y

theorem owns_take {w : World} {base : Nat} {e : TypeId} {g n c : Nat} {xs : List Value} (h : w.ownsRow base e 1 (.slice (some ⟨g, 0, none⟩) n c) n xs) {m : Nat} (hm : m ≤ n) : w.ownsRow base e 1 (.slice (some ⟨g, 0, none⟩) m c) m (xs.take m) := by
  obtain ⟨h1, h2 | ⟨g', cap, cur, hv, hg, hh, hn, hmx, hs, ht⟩⟩ := h
  · simp at h2
  · simp only [Value.slice.injEq, Option.some.injEq, Addr.mk.injEq] at hv
    obtain ⟨⟨rfl, _⟩, _, rfl⟩ := hv
    refine ⟨by simp; omega, .inr ⟨g, c, cur, rfl, hg, hh, by omega, hmx, hs, ?_⟩⟩
    rw [← ht, List.take_take]
    congr 1
    omega

theorem take_set_push (A : List Value) (a b c : Value) : ((A ++ [a, b]).set A.length c).take (A.length + 1) = A ++ [c] := by
  rw [List.set_append_right _ _ (Nat.le_refl _)]
  simp [List.take_append, List.take_of_length_le]

theorem depth_head {p : Part} {l : List Part} {n : Int} (h : depthOf (p :: l) n = some 1) : ¬ takesQ p < 0 ∧ ¬ n < takesQ p ∧ depthOf l (n + (1 - takesQ p)) = some 1 := by
  rw [depthOf] at h
  by_cases hh : takesQ p < 0 ∨ n < takesQ p
  · rw [if_pos hh] at h; simp at h
  · rw [if_neg hh] at h
    exact ⟨fun e => hh (.inl e), fun e => hh (.inr e), h⟩

/-- The parts that may be, at what the stack must hold. -/
theorem step_cases {p : Part} {n : Nat} (h0 : ¬ takesQ p < 0) (h1 : ¬ (n : Int) < takesQ p) :
    (p.kind = 1 ∧ isTerm p.term = true) ∨ (p.kind = 4 ∧ p.term = [] ∧ 1 ≤ n) ∨ ((p.kind = 2 ∨ p.kind = 3) ∧ p.term = [] ∧ 2 ≤ n) := by
  unfold takesQ at *
  split at h0
  · exact .inl (by assumption)
  · rename_i k1
    rw [if_neg k1] at h1
    split at h0
    · rename_i k2
      rw [if_pos k2] at h1
      exact .inr (.inl ⟨k2.1, k2.2, by omega⟩)
    · rename_i k2
      rw [if_neg k2] at h1
      split at h0
      · rename_i k3
        rw [if_pos k3] at h1
        exact .inr (.inr ⟨k3.1, k3.2, by omega⟩)
      · omega

def total (st : List (List UInt8)) : Nat := (st.map List.length).sum

set_option maxRecDepth 100000 in
set_option maxHeartbeats 2000000 in
theorem text_calls (v : Value) (q : List Part) (w : World) (h : PartsAt w v q) : Calls Try.prog 21 #[v] w fun e w' =>
    e = .returned (.string ⟨(text q).toArray⟩) ∧ Below w.heap.size w w' := by
  have h' := h
  obtain ⟨p, c, rfl, hql, htl, hc⟩ := h'
  have hrc := right_calls _ q w h
  by_cases hr : rightQ q = true
  · have hq64 : q.length ≤ 64 ∧ depthOf q 0 = some 1 := by rw [rightQ] at hr; simpa [and_comm] using hr
    have ht : text q = (textGo q []).headD [] := by rw [text, if_pos hr]
    rw [hr] at hrc
    rw [ht]
    clear ht hr
    go_enter Try.func21, Try.ntmps21
    go_wp2_with fail
    refine hrc.mono ?_
    rintro e w1 ⟨rfl, hb1⟩
    go_wp2_with fail
    go_loopw [3, 12] (fun vl vi wr => ∃ (k : Nat) (st : List (List UInt8)) (pg : Option Addr) (cg : Nat), vi = .int .i64 k ∧ k ≤ q.length ∧ vl = .slice pg st.length cg ∧ wr.ownsRow w.heap.size 9 1 (.slice pg st.length cg) st.length (strs st.reverse) ∧
      Below w.heap.size w wr ∧ depthOf (q.drop k) st.length = some 1 ∧ textGo (q.drop k) st = textGo q [] ∧ total st ≤ 15 * k ∧ st.length ≤ k) (fun _ v _ => q.length - (intOf v).toNat)
    case atStart => exact ⟨0, [], none, 0, rfl, by omega, rfl, World.ownsRow_nil _ _ _ _, hb1, hq64.2, rfl, by simp [total], by simp⟩
    case round =>
      obtain ⟨k, st, pg, cg, rfl, hk, rfl, ho, hbw, hd, hgo, htot, hstk⟩ := hrel
      by_cases hlt : k < q.length
      · obtain ⟨blk, off, rfl, h1, h2⟩ := hc k hlt
        have hdrop : q.drop k = q[k] :: q.drop (k + 1) := List.drop_eq_getElem_cons hlt
        rw [hdrop] at hd hgo
        generalize q[k] = x at *
        have g1 : wr.cell? ⟨blk, off + k * 2, none⟩ = some (.int .i64 x.kind) := by rw [← h1]; exact World.cell?_of_block (w := w) (hbw.block blk (cell_lt h1))
        have g2 : wr.cell? ⟨blk, off + k * 2 + 1, none⟩ = some (.string ⟨x.term.toArray⟩) := by rw [← h2]; exact World.cell?_of_block (w := w) (hbw.block blk (cell_lt h2))
        have hcast : (k : Int) < (q.length : Int) := by omega
        obtain ⟨hn0, hn1, hdn⟩ := depth_head hd
        have hlen := step_len hn0 hn1
        have hszw := hbw.size
        rw [← hlen] at hdn
        rw [textGo] at hgo
        replace hdn := Lib.hid hdn
        replace hgo := Lib.hid hgo
        clear hc hlen hdrop
        obtain ⟨xk, xt⟩ := x
        rcases step_cases hn0 hn1 with ⟨hk1, hterm⟩ | ⟨hk4, hterm, hst⟩ | ⟨hk23, hterm, hst⟩
        · simp only at hk1 hterm
          subst hk1
          have hs : textStep ⟨1, xt⟩ st = xt :: st := by simp [textStep]
          rw [hs] at hgo hdn
          have hxt : xt.length ≤ 12 := by
            unfold isTerm at hterm
            simp only [Bool.and_eq_true, decide_eq_true_eq] at hterm
            exact hterm.2
          clear hn0 hn1
          go_wp2_with (refine wpl_appendk _ (.tmp 22) (.tmp 25) 60 9 rfl rfl 1 16 Try.underlying60 info_str (by decide) (by decide) pg st.length cg (strs st.reverse) w.heap.size _ [.string ⟨xt.toArray⟩] rfl rfl rfl ?h1 ?h2 ?h3 ?h4 ?h4b ?h5)
          case h1 => exact (ho.alloc _).alloc _
          case h2 => omega
          case h4 => rfl
          case h4b => omega
          case h5 =>
            intro g c' w2 hown hupd hg
            go_wp2_with fail
            go_roundw
            case rel =>
              refine ⟨k + 1, xt :: st, some ⟨g, 0, none⟩, c', by simp, by omega, rfl, ?_, ?_, hdn.out, hgo.out, ?_, ?_⟩
              · simpa [strs] using hown
              · exact hupd.below_own ((ho.alloc _).alloc _) (by simp; omega) ((hbw.alloc hszw _).alloc (by simp; omega) _)
              · simp [total] at htot ⊢; omega
              · simp; omega
            case measure => simp [intOf]; omega
        · simp only at hk4 hterm
          subst hk4 hterm
          rcases st with _ | ⟨y, r⟩
          · simp at hst
          have hs : textStep ⟨4, []⟩ (y :: r) = (33 :: y) :: r := by simp [textStep]
          rw [hs] at hgo hdn
          clear hn0 hn1
          obtain ⟨pg', cg', hv, hp0, hp1⟩ := own_form ho
          simp only [Value.slice.injEq] at hv
          obtain ⟨rfl, _, rfl⟩ := hv
          rcases pg with _ | ag
          · have := hp0 rfl; simp at this
          have eg := hp1 ag rfl
          generalize ag.block = g at eg
          subst eg
          have ho1 := ho.alloc (.cells #[.int .i64 4, .string ⟨#[]⟩] 57)
          have hcell := ho.cellAt r.length (by simp)
          have hrev : (strs (y :: r).reverse)[r.length]? = some (.string ⟨y.toArray⟩) := by simp [strs]
          rw [hrev] at hcell
          have hfr := ho.frozenAt r.length
          have hyl : y.length ≤ 960 := by simp [total] at htot; omega
          have hglt := (ho.lt g rfl).2
          obtain ⟨N, hN⟩ : ∃ N, r.length = N := ⟨_, rfl⟩
          have hNk : N + 1 ≤ k := by rw [← hN]; simpa using hstk
          have eN : (y :: r).length = N + 1 := by rw [← hN]; rfl
          rw [hN] at hcell hfr
          rw [eN] at ho ⊢
          clear hd hrc hrev hs htl h h1 h2 hstk hst ho1 hp0 hp1
          replace htot := Lib.hid htot
          replace ho := Lib.hid ho
          replace hN := Lib.hid hN
          replace eN := Lib.hid eN
          go_wp2_with fail
          go_roundw
          case rel =>
            have e1 : (ByteArray.mk #[33] ++ ByteArray.mk y.toArray) = ByteArray.mk (33 :: y).toArray := ByteArray.mk_append_mk [33] y
            rw [e1]
            refine ⟨k + 1, (33 :: y) :: r, some ⟨g, 0, none⟩, cg, by simp, by omega, by simp [hN.out], ?_, ?_, hdn.out, hgo.out, ?_, ?_⟩
            · refine World.ownsRow.alloc ?_ _
              have := ho.out.stored N (.string ⟨(33 :: y).toArray⟩)
              simpa [strs, hN.out] using this.1
            · exact (hbw.setCell (by simpa using (ho.out.lt g rfl).1) _).alloc (by simpa [World.setCell] using hszw) _
            · have := htot.out; simp [total] at this ⊢; omega
            · simp [hN.out]; omega
          case measure => simp [intOf]; omega
        · simp only at hk23 hterm
          subst hterm
          rcases st with _ | ⟨y, _ | ⟨x, r⟩⟩
          · simp at hst
          · simp at hst
          clear hn0 hn1
          obtain ⟨pg', cg', hv, hp0, hp1⟩ := own_form ho
          simp only [Value.slice.injEq] at hv
          obtain ⟨rfl, _, rfl⟩ := hv
          rcases pg with _ | ag
          · have := hp0 rfl; simp at this
          have eg := hp1 ag rfl
          generalize ag.block = g at eg
          subst eg
          obtain ⟨N, hN⟩ : ∃ N, r.length = N := ⟨_, rfl⟩
          have eN : (y :: x :: r).length = N + 2 := by rw [← hN]; rfl
          have hcap : N + 2 ≤ cg := by
            obtain ⟨_, h2 | ⟨g', cap, cur, hv, _, _, hn, _⟩⟩ := ho
            · simp at h2
            · simp only [Value.slice.injEq] at hv; omega
          have hc0 := ho.cellAt N (by simp [← hN]; omega)
          have hc1 := ho.cellAt (N + 1) (by simp [← hN])
          have hfr := ho.frozenAt N
          have hr0 : (strs (y :: x :: r).reverse)[N]? = some (.string ⟨x.toArray⟩) := by simp [strs, ← hN]
          have hr1 : (strs (y :: x :: r).reverse)[N + 1]? = some (.string ⟨y.toArray⟩) := by simp [strs, ← hN]
          rw [hr0] at hc0
          rw [hr1] at hc1
          have hyl : y.length ≤ 960 := by simp [total] at htot; omega
          have hxl : x.length ≤ 960 := by simp [total] at htot; omega
          have hglt := (ho.lt g rfl).2
          have hNk : N + 2 ≤ k := by rw [← eN]; exact hstk
          rw [eN] at ho ⊢
          clear hd hrc htl h h1 h2 hstk hst hp0 hp1 hr0 hr1
          have hot := owns_take ho (m := N) (by omega)
          have etk : (strs (y :: x :: r).reverse).take N = strs r.reverse := by simp [strs, ← hN]
          rw [etk] at hot
          clear etk
          replace htot := Lib.hid htot
          replace ho := Lib.hid ho
          replace hot := Lib.hid hot
          replace hN := Lib.hid hN
          replace eN := Lib.hid eN
          rcases hk23 with rfl | rfl
          · have hs : textStep ⟨2, []⟩ (y :: x :: r) = (40 :: x ++ 38 :: y ++ [41]) :: r := by simp [textStep]
            rw [hs] at hgo hdn
            clear hs
            go_wp2_with fail
            refine undraw ?hB ?_
            case hB => kernel_rfl
            intro K hK
            simp only [Undraw.withAsks, Undraw.asksOf, Undraw.intsOf, Undraw.strsOf, List.contains, List.elem, Nat.reduceBEq, if_true, List.map_nil, List.map_cons, List.nil_append, List.append_nil, List.cons_append]
            go_wp2_with fail
            go_roundw
            case rel =>
              have e1 : (ByteArray.mk #[40] ++ ByteArray.mk x.toArray ++ ByteArray.mk #[38] ++ ByteArray.mk y.toArray ++ ByteArray.mk #[41]) = ByteArray.mk (40 :: x ++ 38 :: y ++ [41]).toArray := by
                have f1 := ByteArray.mk_append_mk [40] x
                have f2 := ByteArray.mk_append_mk ([40] ++ x) [38]
                have f3 := ByteArray.mk_append_mk ([40] ++ x ++ [38]) y
                have f4 := ByteArray.mk_append_mk ([40] ++ x ++ [38] ++ y) [41]
                simp only [List.cons_append, List.nil_append, List.append_assoc] at f1 f2 f3 f4 ⊢
                rw [f1, f2, f3, f4]
              rw [e1]
              refine ⟨k + 1, (40 :: x ++ 38 :: y ++ [41]) :: r, some ⟨g, 0, none⟩, cg, by simp, by omega, by simp [hN.out], ?_, ?_, hdn.out, hgo.out, ?_, ?_⟩
              · refine World.ownsRow.drew (World.ownsRow.alloc (World.ownsRow.alloc ?_ _) _)
                have := owns_take ((ho.out.stored N (.string ⟨(40 :: x ++ 38 :: y ++ [41]).toArray⟩)).1) (m := N + 1) (by omega)
                have e2 : ((strs (y :: x :: r).reverse).set N (.string ⟨(40 :: x ++ 38 :: y ++ [41]).toArray⟩)).take (N + 1) = strs ((40 :: x ++ 38 :: y ++ [41]) :: r).reverse := by
                  have e3 : strs (y :: x :: r).reverse = strs r.reverse ++ [.string ⟨x.toArray⟩, .string ⟨y.toArray⟩] := by simp [strs]
                  have e4 : (strs r.reverse).length = N := by simp [strs, hN.out]
                  rw [e3, ← e4, take_set_push]
                  simp [strs]
                rw [e2] at this
                simpa [hN.out] using this
              · exact (((hbw.setCell (by simpa using (ho.out.lt g rfl).1) _).alloc (by simpa [World.setCell] using hszw) _).alloc (by simp [World.setCell]; omega) _).drew
              · have := htot.out; simp [total] at this ⊢; omega
              · simp [hN.out]; omega
            case measure => simp [intOf]; omega
          · have hs : textStep ⟨3, []⟩ (y :: x :: r) = (40 :: x ++ 124 :: y ++ [41]) :: r := by simp [textStep]
            rw [hs] at hgo hdn
            clear hs
            go_wp2_with fail
            refine undraw ?hB ?_
            case hB => kernel_rfl
            intro K hK
            simp only [Undraw.withAsks, Undraw.asksOf, Undraw.intsOf, Undraw.strsOf, List.contains, List.elem, Nat.reduceBEq, if_true, List.map_nil, List.map_cons, List.nil_append, List.append_nil, List.cons_append]
            go_wp2_with fail
            go_roundw
            case rel =>
              have e1 : (ByteArray.mk #[40] ++ ByteArray.mk x.toArray ++ ByteArray.mk #[124] ++ ByteArray.mk y.toArray ++ ByteArray.mk #[41]) = ByteArray.mk (40 :: x ++ 124 :: y ++ [41]).toArray := by
                have f1 := ByteArray.mk_append_mk [40] x
                have f2 := ByteArray.mk_append_mk ([40] ++ x) [124]
                have f3 := ByteArray.mk_append_mk ([40] ++ x ++ [124]) y
                have f4 := ByteArray.mk_append_mk ([40] ++ x ++ [124] ++ y) [41]
                simp only [List.cons_append, List.nil_append, List.append_assoc] at f1 f2 f3 f4 ⊢
                rw [f1, f2, f3, f4]
              rw [e1]
              refine ⟨k + 1, (40 :: x ++ 124 :: y ++ [41]) :: r, some ⟨g, 0, none⟩, cg, by simp, by omega, by simp [hN.out], ?_, ?_, hdn.out, hgo.out, ?_, ?_⟩
              · refine World.ownsRow.drew (World.ownsRow.alloc (World.ownsRow.alloc ?_ _) _)
                have := owns_take ((ho.out.stored N (.string ⟨(40 :: x ++ 124 :: y ++ [41]).toArray⟩)).1) (m := N + 1) (by omega)
                have e2 : ((strs (y :: x :: r).reverse).set N (.string ⟨(40 :: x ++ 124 :: y ++ [41]).toArray⟩)).take (N + 1) = strs ((40 :: x ++ 124 :: y ++ [41]) :: r).reverse := by
                  have e3 : strs (y :: x :: r).reverse = strs r.reverse ++ [.string ⟨x.toArray⟩, .string ⟨y.toArray⟩] := by simp [strs]
                  have e4 : (strs r.reverse).length = N := by simp [strs, hN.out]
                  rw [e3, ← e4, take_set_push]
                  simp [strs]
                rw [e2] at this
                simpa [hN.out] using this
              · exact (((hbw.setCell (by simpa using (ho.out.lt g rfl).1) _).alloc (by simpa [World.setCell] using hszw) _).alloc (by simp [World.setCell]; omega) _).drew
              · have := htot.out; simp [total] at this ⊢; omega
              · simp [hN.out]; omega
            case measure => simp [intOf]; omega
      · have hkl : k = q.length := by omega
        subst hkl
        rw [List.drop_length, depthOf] at hd
        rw [List.drop_length, textGo] at hgo
        have hst1 : st.length = 1 := by simp at hd; omega
        rcases st with _ | ⟨y, _ | ⟨x, r⟩⟩
        · simp at hst1
        · obtain ⟨pg', cg', hv, hp0, hp1⟩ := own_form ho
          simp only [Value.slice.injEq] at hv
          obtain ⟨rfl, _, rfl⟩ := hv
          rcases pg with _ | ag
          · have := hp0 rfl; simp at this
          have eg := hp1 ag rfl
          generalize ag.block = g at eg
          subst eg
          have hc0 := ho.cellAt 0 (by simp)
          have hr0 : (strs [y].reverse)[0]? = some (.string ⟨y.toArray⟩) := by simp [strs]
          rw [hr0] at hc0
          have eN : [y].length = 1 := rfl
          rw [eN]
          clear hd hrc htl h hc hst1 hp0 hp1 hr0 ho htot hstk
          replace hgo := Lib.hid hgo
          go_wp2_with fail
          go_ret
          rw [← hgo.out]
          exact ⟨rfl, hbw⟩
        · simp at hst1
  · rw [Bool.not_eq_true] at hr
    rw [hr] at hrc
    have ht : text q = [] := by rw [text, if_neg (by simp [hr])]
    rw [ht]
    go_enter Try.func21, Try.ntmps21
    go_wp2_with fail
    refine hrc.mono ?_
    rintro e w1 ⟨rfl, hb1⟩
    go_wp2_with fail
    go_ret
    exact ⟨rfl, hb1⟩
end Go.Proofs.Ytpobpijjpbggoaa
