/- package token: Terms. -/
import Derived.Test.YtpobpijjpbggoaaDoorTok2
import Derived.Test.YtpobpijjpbggoaaDoorUndrawIn
set_option linter.unusedSimpArgs false
set_option linter.unusedVariables false
namespace Go.Proofs.YtpobpijjpbggoaaDoor
open Go.RowKit Go.Shelf Go.Ten Go.Ten.Qy Go.Ten.Tk

attribute [local go_sem] Oper.semAt_some

theorem Blk.new' (w : World) (xs : List Value) (T : TypeId) {b : Nat} (h : b = w.heap.size) : Blk (w.alloc (.cells xs.toArray T)) b xs T := h ▸ Blk.new w xs T
def mapped (s : List UInt8) (k : Nat) : List UInt8 := (s.take k).map letter ++ s.drop k
theorem mapped_len (s : List UInt8) (k : Nat) : (mapped s k).length = s.length := by
  simp [mapped]; omega
theorem mapped_at (s : List UInt8) (k : Nat) (h : k < s.length) : (mapped s k)[k]'(by rw [mapped_len]; exact h) = s[k] := by
  simp [mapped, List.getElem_append, show min k s.length = k by omega]
theorem mapped_step (s : List UInt8) (k : Nat) (h : k < s.length) : (mapped s k).set k (letter s[k]) = mapped s (k + 1) := by
  have h1 : s.take (k + 1) = s.take k ++ [s[k]] := List.take_succ_eq_append_getElem h
  have h2 : s.drop k = s[k] :: s.drop (k + 1) := List.drop_eq_getElem_cons h
  have h3 : ((s.take k).map letter).length = k := by simp; omega
  rw [mapped, mapped, h1, h2, List.set_append_right _ _ (by omega), h3, Nat.sub_self, List.set_cons_zero, List.map_append, List.append_assoc]
  rfl
theorem mapped_all (s : List UInt8) : mapped s s.length = s.map letter := by simp [mapped]

theorem results_two {fn : Func} {t u : Tmp} (h : fn.results = #[.tmp t, .tmp u]) (tmps : Array Value) (P : Program) (w : World) :
    (results fn tmps).run P w = .ok (.tuple #[tmps.getD t undef, tmps.getD u undef]) w := by
  simp [results, h]
theorem own_cells {w : World} {base : Nat} {e : TypeId} {size n : Nat} {v : Value} {xs : List Value} (h : w.ownsRow base e size v n xs) {k : Nat} (hk : v.ownBlock = some k) : ∃ cur, w.heap[k]? = some (.cells cur e (0, 0)) := by
  obtain ⟨_, h | ⟨g, cap, cur, hv, hg, hh, _⟩⟩ := h
  · rw [h.1] at hk; simp [Value.ownBlock] at hk
  · rw [hv] at hk
    simp [Value.ownBlock] at hk
    subst hk
    exact ⟨cur, hh⟩
set_option maxRecDepth 100000 in
set_option maxHeartbeats 4000000 in
theorem terms_calls (s : List UInt8) (hl : s.length ≤ 512) (w : World) : Calls Tryd.prog 5 #[.string ⟨s.toArray⟩] w fun e w' => ∃ p c, e = .returned (.tuple #[.slice p (termsOf s).length c, .int .i64 0]) ∧
    w'.ownsRow w.heap.size 9 1 (.slice p (termsOf s).length c) (termsOf s).length (strs (termsOf s)) ∧ Below w.heap.size w w' := by
  have hsz := size_str s
  have hcv := Lib.run_convert_string_bytes (P := Tryd.prog) w 9 28 5 ⟨s.toArray⟩ Tryd.underlying9 Tryd.underlying28 Tryd.underlying5
  have hb0 := BytesAt.new w s
  have hbel0 := bytesWorld_below w 5 ⟨s.toArray⟩
  have hsz0 := Lib.bytesWorld_size w 5 ⟨s.toArray⟩
  generalize Lib.bytesWorld w 5 ⟨s.toArray⟩ = W1 at *
  rw [hsz] at hcv
  generalize grownCap w s.length 0 5 = C at hcv
  obtain ⟨L, hL⟩ : ∃ L, s.length = L := ⟨_, rfl⟩
  rw [hL] at hsz hcv hl
  replace hL := Lib.hid hL
  refine (callsIn_wide (n := 3)).1 ?_
  refine callsIn_of_wp_marks Tryd.func5 rfl trivial ?_ rfl
  simp only [Tryd.ntmps5, List.size_toArray, List.length_cons, List.length_nil, Nat.reduceAdd, Nat.reduceSub, Array.replicate_succ, Array.replicate_zero, List.push_toArray, List.append_toArray, List.nil_append, List.cons_append]
  gi_wp2
  gi_loopw [16] (fun v wr => ∃ k : Nat, v = .int .i64 k ∧ k ≤ L ∧ BytesAt wr w.heap.size (mapped s k) ∧ Below w.heap.size w wr ∧ w.heap.size < wr.heap.size) (fun v _ => L - (intOf v).toNat)
  case atStart => exact ⟨0, rfl, by omega, by simpa [mapped] using hb0, hbel0, by omega⟩
  case round =>
    obtain ⟨k, rfl, hk, hB, hbw, hszw⟩ := hrel
    clear hcv hb0 hbel0 hsz0
    by_cases hlt : k < L
    · have hks : k < s.length := by have := hL.out; omega
      have hkm : k < (mapped s k).length := by rw [mapped_len]; exact hks
      have d0 := hB.cell k hkm
      have f0 := hB.frozen k hkm
      rw [mapped_at s k hks] at d0
      have hstep := mapped_step s k hks
      have hset := hB.set k (letter s[k])
      rw [hstep] at hset
      generalize s[k] = c at *
      have hlet := letter_calls c wr
      have hcast : (k : Int) < (L : Int) := by omega
      replace hset := Lib.hid hset
      clear hstep
      gi_wp2_with (refine ⟨trivial, ?_⟩; gi_at_call 8; refine (callsIn_wide.2 hlet).mono ?_; rintro e w' ⟨rfl, rfl⟩)
      go_roundw
      case rel => exact ⟨k + 1, by simp, by omega, hset.out, hbw.setCell (p := ⟨w.heap.size, k, none⟩) (by simp) _, by simpa [World.setCell] using hszw⟩
      case measure => simp [intOf]; omega
    · have hkl : k = L := by omega
      subst hkl
      have hkm : (mapped s k) = s.map letter := by rw [← hL.out]; exact mapped_all s
      rw [hkm] at hB
      obtain ⟨m, hm⟩ : ∃ m, s.map letter = m := ⟨_, rfl⟩
      rw [hm] at hB
      have hml : m.length = k := by rw [← hm]; simpa using hL.out
      have hbk : (convert 28 9 (.slice (some ⟨w.heap.size, 0, none⟩) k C)).run Tryd.prog (wr.alloc (.cells #[.slice none 0 0] 23)) = .ok (.string ⟨m.toArray⟩) (wr.alloc (.cells #[.slice none 0 0] 23)) := by
        have := run_convert_bytes_back (P := Tryd.prog) (wr.alloc (.cells #[.slice none 0 0] 23)) 28 9 5 ⟨w.heap.size, 0, none⟩ C m Tryd.underlying28 Tryd.underlying5 Tryd.underlying9 (fun j hj => by
          have e : ((⟨w.heap.size, 0, none⟩ : Addr).add j) = ⟨w.heap.size, j, none⟩ := by simp only [Addr.add]; split <;> simp_all
          rw [e]
          exact cell_grew ((Below.refl _ _).alloc (Nat.le_refl _) _) (hB.cell j hj))
        rwa [hml] at this
      replace hml := Lib.hid hml
      replace hm := Lib.hid hm
      clear hkm
      gi_wp2_with (refine ⟨trivial, ?_⟩; gi_at_call 9; refine (callsIn_wide.2 (splitseq_calls _ _)).mono ?_; rintro e w' ⟨rfl, rfl⟩)
      have hN := splitZ_len m
      refine wpIn_rangeFunc_z (bs := wr.heap.size + 1) (Kp := Keep3 (wr.heap.size + 1)) rfl (by omega) (gf := 17) (lb := #[.pointer (some ⟨wr.heap.size + 1 + 1, 0, none⟩), .pointer (some ⟨wr.heap.size + 1, 0, none⟩), .pointer (some ⟨wr.heap.size + 1 + 1 + 1, 0, none⟩)]) rfl trivial (enters_of Tryd.func17 (by kernel_rfl) rfl)
        (split_stops 2 (by omega) (wr.heap.size + 1) m (by have := hml.out; omega) _ ?bx0 ?bx1 ?bx2) ?hbs ?hKt ?hKb (Below.refl _ _) (fun _ => rfl)
        (fun pre W => ∃ p c, Boxed W wr.heap.size 23 (.slice p (cut pre).length c) ∧ W.ownsRow (wr.heap.size + 4) 9 1 (.slice p (cut pre).length c) (cut pre).length (strs (cut pre)) ∧ Below w.heap.size w W ∧ wr.heap.size + 4 ≤ W.heap.size)
        ?hIa ?hIp ?hIz ?h0 ?a1 ?assign ?body ?done
      case assign =>
        intro l x W K hK
        gi_wp2
        exact hK
      case bx0 => exact ((Blk.new' (wr.alloc (.cells #[.slice none 0 0] 23)) [.string ⟨m.toArray⟩] 9 (by simp)).alloc _).alloc _
      case bx1 => exact (Blk.new' _ [.string ⟨#[0]⟩] 9 (by simp)).alloc _
      case bx2 => exact Blk.new' _ [.int .i64 0] 3 (by simp)
      case hbs => simp
      case hKt => exact fun h1 h2 k h3 h4 => (h2 k h3 h4).trans (h1 k h3 h4)
      case hKb => exact fun W l o o' hl _ _ k h3 h4 => World.putObj_heap_other (by simp at hl; omega)
      case hIa => exact fun pre W o ⟨p, c, h1, h2, h3, h4⟩ => ⟨p, c, h1.alloc _, h2.alloc _, h3.alloc (by omega) _, by simp; omega⟩
      case hIp => exact fun pre W l o o' ⟨p, c, h1, h2, h3, h4⟩ hl ho hc => ⟨p, c, h1.kept (grownBy_putObj' W l o') (fun e => by simp at hl e; omega), ownsRow_putObj h2 _ ho hc, h3.grown (grownBy_putObj' W l o') (by omega) (fun k e => by cases e; simp at hl; omega), by have := (grownBy_putObj' W l o').size; omega⟩
      case hIz => exact fun pre W v ⟨p, c, h1, h2, h3, h4⟩ => ⟨p, c, h1.kept (grownBy_setCell' W _ v) (by simp), ownsRow_setCell_off h2 (fun e => by have := own_ge h2 e; simp at this) _, h3.setCell (by simp; omega) _, by simpa [World.setCell] using h4⟩
      case h0 => exact ⟨none, 0, ((Boxed.new wr 23 (.slice none 0 0)).alloc _ |>.alloc _ |>.alloc _), World.ownsRow_nil _ _ _ _, (((hbw.alloc (by omega) _).alloc (by simp; omega) _).alloc (by simp; omega) _).alloc (by simp; omega) _, by simp⟩
      case body =>
        rintro l pre x W ⟨p, c, hbox, hrow, hB, hszW⟩ hlt
        have hc := hbox.cell
        by_cases hx : x = []
        · subst hx
          gi_wp2
          exact ⟨KeepsOthers.refl _, fun _ _ _ => rfl, p, c, by rw [cut_snoc_nil]; exact hbox, by rw [cut_snoc_nil]; exact hrow, hB, hszW⟩
        · have hxb : x.isEmpty = false := by simpa using hx
          obtain ⟨M, hM1, hM2, hM3⟩ : ∃ M : Nat, (min (x.length : Int) 12) = (M : Int) ∧ M ≤ x.length ∧ x.take M = x.take 12 := ⟨min x.length 12, by omega, by omega, by rw [List.take_eq_take_iff]; omega⟩
          have hsx := size_str x
          have hxt := ext_take x M
          obtain ⟨y, hy⟩ : ∃ y, x.take M = y := ⟨_, rfl⟩
          rw [hy] at hxt
          have hcut : cut (pre ++ [x]) = cut pre ++ [y] := by rw [cut_snoc _ hx, ← hM3, hy]
          have hpl : (cut pre).length ≤ 512 := by have := cut_len pre; have := hml.out; omega
          obtain ⟨N, hNd⟩ : ∃ N, (cut pre).length = N := ⟨_, rfl⟩
          rw [hNd] at hbox hrow hc hpl
          replace hNd := Lib.hid hNd
          replace hcut := Lib.hid hcut
          replace hM3 := Lib.hid hM3
          replace hy := Lib.hid hy
          gi_wp2
          refine undraw_in ?hB ?hD ?_
          case hB => kernel_rfl
          case hD => kernel_rfl
          intro K hK
          simp only [Undraw.withAsks, Undraw.asksOf, Undraw.intsOf, Undraw.minLits, Undraw.strsOf, List.contains, List.elem, Nat.reduceBEq, if_true, List.map_nil, List.map_cons, List.nil_append, List.append_nil, List.cons_append]
          go_wp2_with (refine wpl_appendk _ (.tmp 33) (.tmp 39) 23 9 rfl rfl 1 16 Tryd.underlying23 info_str (by decide) (by decide) p N c (strs (cut pre)) (wr.heap.size + 4) _ [.string ⟨y.toArray⟩] rfl rfl rfl ?e1 ?e2 ?e3 ?e4 ?e4b ?e5)
          case e1 => exact (hrow.alloc _).drew
          case e2 => simp; omega
          case e3 => exact one_new W (.string ⟨y.toArray⟩) 9
          case e4 => intro u hu; simp at hu; subst hu; rfl
          case e4b => omega
          case e5 =>
            intro g c' w3 hown hupd hg
            have hbx3 : Boxed w3 wr.heap.size 23 (.slice p N c) := by
              have h1 : Boxed ((W.alloc (.cells #[.string ⟨y.toArray⟩] 9)).drew) wr.heap.size 23 (.slice p N c) := hbox.alloc _
              exact (hupd.block _ h1.lt (fun e => by have := own_ge hrow e.symm; omega)).trans h1
            have hcb := hbx3.cell
            have hfb := hbx3.frozen
            have hB3 : Below w.heap.size w w3 := (hupd.below ((by simp; omega : w.heap.size ≤ ((W.alloc (.cells #[.string ⟨y.toArray⟩] 9)).drew).heap.size)) (fun k hk e => by have := own_ge hrow e.symm; omega)) |> fun h => ((hB.alloc (by omega) _).drew).trans h
            have hsz3 : W.heap.size ≤ w3.heap.size := by have := hupd.size; simp at this; omega
            have hk3 : ∀ k, k < wr.heap.size + 4 → k ≠ wr.heap.size → w3.heap[k]? = W.heap[k]? := fun k hk _ => by
              rw [hupd.block k (by simp; omega) (fun e => by have := own_ge hrow e.symm; omega)]
              exact Below.heap_alloc W _ k (by omega)
            have hko : KeepsOthers W w3 := ⟨hsz3, fun k o hk ho => by
              have hkl : k < W.heap.size := (Array.getElem?_eq_some_iff.1 hk).1
              rw [hupd.block k (by simp; omega) (fun e => by
                obtain ⟨cur, hcur⟩ := own_cells hrow e.symm
                rw [hcur] at hk
                cases hk
                cases ho)]
              exact (Below.heap_alloc W _ k hkl).trans hk⟩
            have hown' : (w3.setCell ⟨wr.heap.size, 0, none⟩ (.slice (some ⟨g, 0, none⟩) (N + 1) c')).ownsRow (wr.heap.size + 4) 9 1 (.slice (some ⟨g, 0, none⟩) (N + 1) c') (N + 1) (strs (cut pre) ++ [.string ⟨y.toArray⟩]) :=
              ownsRow_setCell_off hown (fun e => by have := own_ge hown e; simp at this; omega) _
            have hbx4 := hbx3.set (.slice (some ⟨g, 0, none⟩) (N + 1) c')
            have hlen4 : (cut (pre ++ [x])).length = N + 1 := by rw [hcut.out, List.length_append, hNd.out]; rfl
            replace hlen4 := Lib.hid hlen4
            replace hbx4 := Lib.hid hbx4
            replace hown' := Lib.hid hown'
            replace hk3 := Lib.hid hk3
            go_wp2_with fail
            refine ⟨hko.trans (KeepsOthers.setCell _ _ _), fun k h3 h4 => ?_, some ⟨g, 0, none⟩, c', by rw [hlen4.out]; exact hbx4.out, ?_, hB3.setCell (p := ⟨wr.heap.size, 0, none⟩) (by show w.heap.size ≤ wr.heap.size; omega) _, by simpa [World.setCell] using (by omega : wr.heap.size + 4 ≤ w3.heap.size)⟩
            · exact (Below.heap_setCell w3 ⟨wr.heap.size, 0, none⟩ _ k (by show k ≠ wr.heap.size; omega)).trans (hk3.out k (by omega) (by omega))
            · rw [hlen4.out, hcut.out]
              simpa [strs] using hown'.out
      case done =>
        rintro D ys W hD rfl ⟨p, c, hbox, hrow, hB, hszW⟩ hK
        have hwd : cut (splitZ m) = words s := by rw [words, hm.out]
        have hwl : (cut (splitZ m)).length ≤ 513 := by have := cut_len (splitZ m); have := hml.out; omega
        rw [hwd] at hbox hrow hwl
        have hterm : termsOf s = Lib.compact ((words s).mergeSort fun x y => decide (x ≤ y)) := rfl
        obtain ⟨xs, hxs⟩ : ∃ xs, words s = xs := ⟨_, rfl⟩
        rw [hxs] at hbox hrow hwl hterm
        have hsl : (xs.mergeSort fun x y => decide (x ≤ y)).length = xs.length := List.length_mergeSort xs
        obtain ⟨zs, hzs⟩ : ∃ zs, (xs.mergeSort fun x y => decide (x ≤ y)) = zs := ⟨_, rfl⟩
        have hsort := sort_calls _ p c xs W hrow (by omega) (by omega)
        rw [hzs] at hsort hterm hsl
        rw [hsl] at hsort
        have hc := hbox.cell
        have hcomp := fun (w2 : World) (ho : w2.ownsRow (wr.heap.size + 4) 9 1 (.slice p xs.length c) xs.length (strs zs)) (hs : wr.heap.size + 4 ≤ w2.heap.size) => compact_calls (wr.heap.size + 4) p c zs w2 (by rw [hsl]; exact ho) hs (by omega)
        obtain ⟨N, hN⟩ : ∃ N, xs.length = N := ⟨_, rfl⟩
        rw [hN] at hsort hcomp hbox hc hsl
        rw [hsl] at hcomp
        replace hterm := Lib.hid hterm
        replace hxs := Lib.hid hxs
        replace hzs := Lib.hid hzs
        replace hsl := Lib.hid hsl
        have hrow' : W.ownsRow (wr.heap.size + 4) 9 1 (.slice p N c) N (strs xs) := by rw [← hN]; exact hrow
        replace hN := Lib.hid hN
        clear hwd hrow
        gi_wp2_with (refine ⟨trivial, ?_⟩; gi_at_call 10; refine (callsIn_wide.2 hsort).mono ?_)
        rintro e W2 ⟨rfl, ho2, hu2⟩
        clear hsort
        have hnb : ∀ k, some k = (Value.slice p N c).ownBlock → wr.heap.size + 4 ≤ k := fun k e => own_ge hrow' e.symm
        have hnc : ∀ k o, W.heap[k]? = some o → o.isCells = false → ¬ some k = (Value.slice p N c).ownBlock := fun k o hk ho e => by
          obtain ⟨cur, hcur⟩ := own_cells hrow' e.symm
          rw [hcur] at hk
          cases hk
          cases ho
        have hbox2 : Boxed W2 wr.heap.size 23 (.slice p N c) := (hu2.block _ hbox.lt (fun e => by have := hnb _ e; omega)).trans hbox
        have hc2 := hbox2.cell
        have hK2 : W2.heap[D]? = some (.deferred (some [])) := (hu2.block D (Array.getElem?_eq_some_iff.1 hK).1 (hnc D _ hK rfl)).trans hK
        have hsz2 := hu2.size
        have hcp := hcomp W2 ho2 (by omega)
        clear hcomp hc
        gi_wp2_with (refine ⟨trivial, ?_⟩; gi_at_call 11; refine (callsIn_wide.2 hcp).mono ?_)
        rintro e W3 ⟨rfl, ho3, hu3⟩
        have hK3 : W3.heap[D]? = some (.deferred (some [])) := (hu3.block D (Array.getElem?_eq_some_iff.1 hK2).1 (hnc D _ hK rfl)).trans hK2
        have hB2 : Below w.heap.size w W2 := hB.trans (hu2.below (by omega) fun k hk e => by have := hnb _ e; omega)
        have hB3 : Below w.heap.size w W3 := hB2.trans (hu3.below (by omega) fun k hk e => by have := hnb _ e; omega)
        clear hcp
        gi_wp2
        refine ⟨by simp, .inl ⟨_, _, rfl, run_takeDeferred hK3, ?_⟩⟩
        have hz : (Lib.compact zs) = termsOf s := hterm.out.symm
        rw [hz] at ho3 ⊢
        refine ⟨_, results_two rfl _ _ _, p, c, rfl, owns_base (ownsRow_putObj ho3 _ hK3 rfl) (by omega), hB3.trans (belowK_b (w := w) (Nat.le_refl _) W3 D _ _ ?_ hK3 rfl rfl)⟩
        simp at hD
        omega
end Go.Proofs.YtpobpijjpbggoaaDoor
