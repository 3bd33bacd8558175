/- tendrillaw23.QueryLaws: for any two queries, any sets and any universe the call returns true, and all four read afterwards as before. No condition. -/
import Derived.Test.YtpobpijjpbggoaaRows
import Derived.Test.YtpobpijjpbggoaaLaws2
import Derived.WalkKit
import Derived.ProofKit
import Derived.OpenShut
import Derived.ShutString
import Derived.ChangeOld
import Derived.ChangeSame
import Derived.Below
import Derived.Deep.Slices
import Derived.Deep.Fields
import Derived.Deep.Matrix
set_option linter.unusedSimpArgs false
set_option linter.unusedVariables false
namespace Go.Proofs.Ytpobpijjpbggoaa.queryLaws
open Go.ChangeShapes Go.WideShapes Go.ChangeAt Go.RowKit Go.Deep Go.Ten Go.Ten.Qy Go.Ten.Mg

theorem own : ownKnob Try.prog.godebug = none := by kernel_rfl
theorem laidOut : laidOutB Try.prog = true := by kernel_rfl

section
variable {H : Type} {enc : TypeId × Value → H} {P : Program} {w : World} {base : Nat} {spare : Nat → Bool} {held : Bool}
theorem open_slice_fields {t e : TypeId} {fs : Array Field} {fuel : Nat} {cs : List Value} {x : DataW H × List MemPlace} (ht : P.underlying t = some (.slice e)) (he : P.underlying e = some (.struct fs))
    (hone : oneCellFields P fs = true) (hC : P.cellsOf e = fs.size) (h : DataW.trod enc P w base spare held fuel t cs = some x) :
    (cs = [.slice none 0 0] ∧ x = (.nil, [])) ∨
    ∃ (a : Addr) (len cap m : Nat), cs = [.slice (some a) len cap] ∧ len ≤ cap ∧ cap ≤ maxLen ∧ m = (if spare a.block then cap else len) ∧
      ∀ i, i < m → ∃ n : Nat, ∀ (j : Nat) (f : Field), fs[j]? = some f → ∃ (v : Value) (y : DataW H × List MemPlace), w.cell? (a.add (i * fs.size + j)) = some v ∧ DataW.trod enc P w base spare held n f.type [v] = some y := by
  rcases open_slice ht h with h0 | ⟨a, len, cap, m, n, D, Pl, hcs, hb, hl, hm, hmm, hx, hi⟩
  · exact .inl h0
  · refine .inr ⟨a, len, cap, m, hcs, hl, hm, hmm, fun i him => ?_⟩
    obtain ⟨cs', hc, ht'⟩ := hi i him
    rw [hC] at hc
    obtain ⟨ys, n', hn', hy, hlen, hyl, hf⟩ := DataW.trod_struct he ht'
    obtain ⟨_, hcl, hat⟩ := World.cells?_some hc
    refine ⟨n', fun j f hj => ?_⟩
    obtain ⟨ho, hk⟩ := hone_of hone j f hj
    have hjl : j < fs.size := (Array.getElem?_eq_some_iff.1 hj).1
    have hcell := hat j hjl
    have hv : cs'[j]? = some (cs'[j]'(by omega)) := List.getElem?_eq_getElem (by omega)
    have h1 := hf j f hj
    rw [ho, hk] at h1
    have hone' : (cs'.drop j).take 1 = [cs'[j]'(by omega)] := by
      rw [List.drop_eq_getElem_cons (by omega)]
      rfl
    rw [hone'] at h1
    have hys : ys[j]? = some (ys[j]'(by omega)) := List.getElem?_eq_getElem (by omega)
    refine ⟨_, _, ?_, h1.trans hys⟩
    rw [← Go.Deep.add_add, hcell, hv]
end

/-- An address at which a cell lies is a plain one. -/
theorem plain_addr {w : World} {a : Addr} {v : Value} (h : w.cell? a = some v) : a = ⟨a.block, a.off, none⟩ := by
  obtain ⟨b, off, spot⟩ := a
  have hspot : spot = none := by simpa [Addr.add] using World.cell?_spot h
  subst hspot
  rfl

theorem strct : Try.prog.underlying 57 = some (.struct #[{ name := "Kind", type := 3, offset := 0, embedded := false, tag := "", pkgPath := "", byteOffset := 0 }, { name := "Term", type := 9, offset := 1, embedded := false, tag := "", pkgPath := "", byteOffset := 8 }]) := by
  have h := struct_part
  have e : Try.prog.fieldsOf 57 = #[{ name := "Kind", type := 3, offset := 0, embedded := false, tag := "", pkgPath := "", byteOffset := 0 }, { name := "Term", type := 9, offset := 1, embedded := false, tag := "", pkgPath := "", byteOffset := 8 }] := by
    apply Array.toList_inj.1
    rw [fields_part]
  rw [e] at h
  exact h

/-- A slice of parts that came in. -/
theorem parts_in {H : Type} {enc : TypeId × Value → H} {w : World} {base fuel : Nat} {held : Bool} {a : Option Addr} {len cap : Nat} {x : DataW H × List MemPlace}
    (h : DataW.trod enc Try.prog w base (fun _ => true) held fuel 50 [.slice a len cap] = some x) : ∃ q, PartsAt w (.slice a len cap) q := by
  rcases open_slice_fields Try.underlying50 strct (by kernel_rfl) (by kernel_rfl) h with ⟨hcs, _⟩ | ⟨ad, l, c, m, hcs, hl, hm, hmm, hi⟩
  · simp at hcs
    obtain ⟨rfl, rfl, rfl⟩ := hcs
    exact ⟨[], PartsAt.none w⟩
  · simp at hcs
    obtain ⟨h1, h2, h3⟩ := hcs
    subst h1 h2 h3
    simp only [if_true] at hmm
    have hmm' := hmm.symm
    subst hmm'
    have hcell : ∀ i, i < len → ∃ (k : Int) (s : ByteArray), w.cell? (ad.add (i * 2)) = some (.int .i64 k) ∧ w.cell? (ad.add (i * 2 + 1)) = some (.string s) ∧ s.size ≤ maxLen := fun i hil => by
      obtain ⟨n, hf⟩ := hi i (by omega)
      obtain ⟨v0, y0, c0, t0⟩ := hf 0 _ rfl
      obtain ⟨v1, y1, c1, t1⟩ := hf 1 _ rfl
      obtain ⟨k, e0, _, _⟩ := DataW.trod_int Try.underlying3 t0
      obtain ⟨s, e1, _, hs⟩ := DataW.trod_string Try.underlying9 t1
      simp at e0 e1
      subst e0 e1
      exact ⟨k, s, by simpa using c0, by simpa using c1, hs⟩
    let kd : Nat → Int := fun i => match w.cell? (ad.add (i * 2)) with | some (.int _ n) => n | _ => 0
    let tm : Nat → List UInt8 := fun i => match w.cell? (ad.add (i * 2 + 1)) with | some (.string s) => s.data.toList | _ => []
    refine ⟨(List.range len).map fun i => ⟨kd i, tm i⟩, some ad, cap, by simp, by simp; unfold maxLen at hm; omega, fun y hy => ?_, fun i hil => ?_⟩
    · obtain ⟨i, hi1, rfl⟩ := List.mem_map.1 hy
      obtain ⟨k, s, c0, c1, hs⟩ := hcell i (by simpa using hi1)
      have e : tm i = s.data.toList := by simp [tm, c1]
      show (tm i).length ≤ _
      rw [e]
      unfold maxLen at hs
      exact hs
    · have hil' : i < len := by simpa using hil
      obtain ⟨k, s, c0, c1, hs⟩ := hcell i hil'
      obtain ⟨k0, s0, c00, _, _⟩ := hcell 0 (by omega)
      have hpl := plain_addr c00
      simp [Addr.add] at hpl
      have hadd : ∀ j, ad.add j = ⟨ad.block, ad.off + j, none⟩ := fun j => by
        conv => lhs; rw [hpl]
        exact add_addr _ _ _
      have ek : kd i = k := by simp [kd, c0]
      have et : (⟨(tm i).toArray⟩ : ByteArray) = s := by simp [tm, c1]
      have eg : ((List.range len).map fun i => (⟨kd i, tm i⟩ : Part))[i] = ⟨kd i, tm i⟩ := by simp
      refine ⟨ad.block, ad.off, by rw [← hpl], ?_, ?_⟩
      · rw [eg]
        show _ = some (Value.int .i64 (kd i))
        rw [ek, ← c0, hadd]
      · rw [eg]
        show _ = some (Value.string ⟨(tm i).toArray⟩)
        rw [et, ← c1, hadd, Nat.add_assoc]

/-- A slice of slices of integers that came in. -/
def RowsL (w : World) (v : Value) : Prop := ∃ ns : List Nat, LsL w v ns ∧ (∀ n ∈ ns, n ≤ 9223372036854775807) ∧ ns.length ≤ 9223372036854775807 ∧
  ((∀ n ∈ ns, n ≤ 40) → ns.length ≤ 40 → ∃ sets, LsC w v sets ∧ sets.length = ns.length ∧ ∀ l ∈ sets, l.length ≤ 40)
theorem rows_in {H : Type} {enc : TypeId × Value → H} {w : World} {base fuel : Nat} {held : Bool} {a : Option Addr} {len cap : Nat} {x : DataW H × List MemPlace}
    (h : DataW.trod enc Try.prog w base (fun _ => true) held fuel 63 [.slice a len cap] = some x) : RowsL w (.slice a len cap) := by
  rcases open_int_rows Try.underlying63 Try.underlying64 Try.underlying3 (by kernel_rfl) (by kernel_rfl) h with ⟨hcs, _⟩ | ⟨ad, l, c, A, L, C, Z, hcs, _, hl, hm, _, hr⟩
  · simp at hcs
    obtain ⟨rfl, rfl, rfl⟩ := hcs
    exact ⟨[], ⟨none, 0, rfl, fun i hi => by simp at hi⟩, by simp, by simp, fun _ _ => ⟨[], LsC.lit0 w, rfl, by simp⟩⟩
  · simp at hcs
    obtain ⟨h1, h2, h3⟩ := hcs
    subst h1 h2 h3
    have hplain : 0 < len → ∀ j, ad.add j = ⟨ad.block, ad.off + j, none⟩ := fun h0 j => by
      have hpl := plain_addr (hr 0 (by omega)).1
      simp [Addr.add] at hpl
      conv => lhs; rw [hpl]
      exact add_addr _ _ _
    have hpl0 : 0 < len → ad = ⟨ad.block, ad.off, none⟩ := fun h0 => by
      have hpl := plain_addr (hr 0 (by omega)).1
      simpa [Addr.add] using hpl
    unfold maxLen at hm hr
    refine ⟨(List.range len).map L, ⟨some ad, cap, by simp, fun i hi => ?_⟩, fun n hn => ?_, by simp; omega, fun h40 hlen => ?_⟩
    · have hi' : i < len := by simpa using hi
      obtain ⟨h1, _⟩ := hr i (by omega)
      rw [hplain (by omega)] at h1
      exact ⟨ad.block, ad.off, A i, C i, by rw [← hpl0 (by omega)], by rw [h1]; simp⟩
    · obtain ⟨i, hi, rfl⟩ := List.mem_map.1 hn
      obtain ⟨_, h2, h3, _⟩ := hr i (by have : i < len := by simpa using hi
                                        omega)
      omega
    · have hlen' : len ≤ 40 := by simpa using hlen
      refine ⟨(List.range len).map fun i => (Z i).take (L i), ⟨⟨some ad, cap, by simp, fun i hi => ?_⟩, some ad, cap, by simp, by simpa using hl⟩, by simp, fun l hl' => ?_⟩
      · have hi' : i < len := by simpa using hi
        obtain ⟨h1, h2, h3, h4, _, h6, h7⟩ := hr i (by omega)
        have hLi : L i ≤ 40 := h40 _ (List.mem_map.2 ⟨i, by simpa using hi', rfl⟩)
        have hlt : ((Z i).take (L i)).length = L i := by simp; omega
        rw [hplain (by omega)] at h1
        refine ⟨ad.block, ad.off, .slice (A i) (L i) (C i), by rw [← hpl0 (by omega)], h1, ?_⟩
        have eg : ((List.range len).map fun i => (Z i).take (L i))[i] = (Z i).take (L i) := by simp
        rw [eg]
        refine ⟨A i, C i, by rw [hlt], ⟨⟨by omega, by omega⟩, fun a' e h0 => ?_⟩, fun j hj => ?_⟩
        · obtain ⟨_, h8⟩ := h7 a' e
          have := plain_addr (h8 0 (by omega))
          simpa [Addr.add] using this
        · have hj' : j < L i := by omega
          cases hA : A i with
          | none => have := h6 hA; omega
          | some a' =>
            obtain ⟨_, h8⟩ := h7 a' hA
            have hpl := plain_addr (h8 0 (by omega))
            simp [Addr.add] at hpl
            have hadd : ∀ j, a'.add j = ⟨a'.block, a'.off + j, none⟩ := fun j => by
              conv => lhs; rw [hpl]
              exact add_addr _ _ _
            refine ⟨a'.block, a'.off, by rw [← hpl], ?_⟩
            rw [← hadd, h8 j (by omega)]
            simp [show j < (Z i).length by omega]
      · obtain ⟨i, hi, rfl⟩ := List.mem_map.1 hl'
        have hi' : i < len := by simpa using hi
        have hLi : L i ≤ 40 := h40 _ (List.mem_map.2 ⟨i, by simpa using hi', rfl⟩)
        have : ((Z i).take (L i)).length ≤ L i := List.length_take_le _ _
        omega

/-- A slice of integers that came in. -/
def IntsL (w : World) (v : Value) : Prop := ∃ p n c, v = .slice p n c ∧ n ≤ 9223372036854775807 ∧ (n ≤ 40 → ∃ xs, IntsR w v xs ∧ xs.length = n)
theorem ints_in {H : Type} {enc : TypeId × Value → H} {w : World} {base fuel : Nat} {held : Bool} {a : Option Addr} {len cap : Nat} {x : DataW H × List MemPlace}
    (h : DataW.trod enc Try.prog w base (fun _ => true) held fuel 64 [.slice a len cap] = some x) : IntsL w (.slice a len cap) := by
  rcases open_ints Try.underlying64 Try.underlying3 (by kernel_rfl) h with ⟨hcs, _⟩ | ⟨ad, l, c, zs, hcs, _, hl, hm, hz, _, hcell, hwz⟩
  · simp at hcs
    obtain ⟨rfl, rfl, rfl⟩ := hcs
    exact ⟨none, 0, 0, rfl, by simp, fun _ => ⟨[], ⟨none, 0, rfl, ⟨⟨by simp, by simp⟩, by simp⟩, by simp⟩, rfl⟩⟩
  · simp at hcs
    obtain ⟨h1, h2, h3⟩ := hcs
    subst h1 h2 h3
    simp only [if_true] at hz
    unfold maxLen at hm
    refine ⟨some ad, len, cap, rfl, by omega, fun h40 => ⟨zs.take len, ?_, by simp; omega⟩⟩
    have hlt : (zs.take len).length = len := by simp; omega
    refine ⟨some ad, cap, by rw [hlt], ⟨⟨by omega, by omega⟩, fun a' e h0 => ?_⟩, fun j hj => ?_⟩
    · cases e
      have := plain_addr (hcell 0 (by omega))
      simpa [Addr.add] using this
    · have hj' : j < len := by omega
      have hpl := plain_addr (hcell 0 (by omega))
      simp [Addr.add] at hpl
      have hadd : ∀ j, ad.add j = ⟨ad.block, ad.off + j, none⟩ := fun j => by
        conv => lhs; rw [hpl]
        exact add_addr _ _ _
      refine ⟨ad.block, ad.off, by rw [← hpl], ?_⟩
      rw [← hadd, hcell j (by omega)]
      simp [show j < zs.length by omega]

theorem walk (va vb vs vl : Value) (w : World) (ha : ∃ q, PartsAt w va q) (hb : ∃ q, PartsAt w vb q) (hs : RowsL w vs) (hl : IntsL w vl) :
    Calls Try.prog 6 #[va, vb, vs, vl] w fun e w' => e = .returned (.bool true) ∧ Below w.heap.size w w' := by
  obtain ⟨a, ha⟩ := ha
  obtain ⟨b, hb⟩ := hb
  obtain ⟨ns, hsl, hsm, hsn, hsc⟩ := hs
  obtain ⟨pl, n, c, rfl, hn, hlc⟩ := hl
  by_cases hg : rightQ a = true ∧ rightQ b = true ∧ a.length + b.length ≤ 40 ∧ n ≤ 40 ∧ ns.length ≤ 40
  · obtain ⟨h1, h2, h3, h4, h5⟩ := hg
    obtain ⟨all, hall, hal⟩ := hlc h4
    by_cases h6 : ∀ n ∈ ns, n ≤ 40
    · obtain ⟨sets, hsets, hsl', hs40⟩ := hsc h6 h5
      exact laws_main va vb vs _ a b sets all w ha hb hsets hall h1 h2 h3 (by omega) (by omega) hs40
    · have hex : ∃ n ∈ ns, 40 < n := by
        apply Classical.byContradiction
        intro hne
        exact h6 fun n hn => by
          by_cases h : n ≤ 40
          · exact h
          · exact absurd ⟨n, hn, by omega⟩ hne
      exact laws_mid va vb vs a b pl n c ns w ha hb hsl hsm h1 h2 h3 h4 h5 hex
  · obtain ⟨ps, cs, rfl, _⟩ := hsl
    exact laws_early va vb (.slice ps ns.length cs) a b pl n c ps ns.length cs w ha hb hn hsn hg

set_option maxRecDepth 100000 in
theorem lifted (os : Os) (started : os.Started) (H : Type) (enc : TypeId × Value → H) :
    ReturnsInHanded {} Try.checked os 6 .any (Rows.queryLawsSpec.pre6 enc Try.prog Try.f6 Rows.queryLawsRow.domain false) (Rows.queryLawsSpec.post enc Try.prog Try.f6 false true false false) := by
  refine returnsInHanded_of_change (C := Try.checked) own started (by kernel_rfl) Try.func6
    (ChangeSpec.witness6 (enc := enc) (C := Try.checked) false ⟨#[], #[.slice none 0 0, .slice none 0 0, .slice none 0 0, .slice none 0 0], []⟩ 8 (by kernel_rfl) (by kernel_rfl) (by kernel_rfl) (by kernel_rfl)) ?_
  intro W base args ds gs before hval0 hW hcnd _
  have hval : ∀ (j : Nat) t v, Try.f6.params[j]? = some t → args[j]? = some v → Value.okWide Try.prog W .any base t v := hval0
  have hW' := hW
  obtain ⟨p, q, hA0, hV, rfl, hfz, hnd⟩ := hW
  have hA : DataW.TrodAll enc Try.prog W 0 (fun _ => true) true Try.f6.params.toList args.toList ds p := hA0
  rw [Try.params6] at hA hval
  obtain ⟨v0, vs0, d0, ds0, p0, q0, hargs, rfl, rfl, h0, r0⟩ := trodAll_cons hA
  obtain ⟨v1, vs1, d1, ds1, p1, q1, rfl, rfl, rfl, h1, r1⟩ := trodAll_cons r0
  obtain ⟨v2, vs2, d2, ds2, p2, q2, rfl, rfl, rfl, h2, r2⟩ := trodAll_cons r1
  obtain ⟨v3, vs3, d3, ds3, p3, q3, rfl, rfl, rfl, h3, r3⟩ := trodAll_cons r2
  obtain ⟨rfl, rfl, rfl⟩ := trodAll_nil r3
  obtain rfl : args = #[v0, v1, v2, v3] := by cases args; simp_all
  obtain ⟨rfl, rfl⟩ := trodVars_none hV
  obtain ⟨a0, len0, cap0, rfl⟩ := okWide_slice Try.underlying50 (hval 0 50 v0 rfl rfl)
  obtain ⟨a1, len1, cap1, rfl⟩ := okWide_slice Try.underlying50 (hval 1 50 v1 rfl rfl)
  obtain ⟨a2, len2, cap2, rfl⟩ := okWide_slice Try.underlying63 (hval 2 63 v2 rfl rfl)
  obtain ⟨a3, len3, cap3, rfl⟩ := okWide_slice Try.underlying64 (hval 3 64 v3 rfl rfl)
  have k0 := h0
  have k1 := h1
  have k2 := h2
  have k3 := h3
  have lt0 : ∀ x ∈ p0, x.block < W.heap.size := by obtain ⟨m, hm⟩ := k0; exact DataW.trod_lt m _ _ _ hm
  have lt1 : ∀ x ∈ p1, x.block < W.heap.size := by obtain ⟨m, hm⟩ := k1; exact DataW.trod_lt m _ _ _ hm
  have lt2 : ∀ x ∈ p2, x.block < W.heap.size := by obtain ⟨m, hm⟩ := k2; exact DataW.trod_lt m _ _ _ hm
  have lt3 : ∀ x ∈ p3, x.block < W.heap.size := by obtain ⟨m, hm⟩ := k3; exact DataW.trod_lt m _ _ _ hm
  have g0 : ∃ q, PartsAt W (.slice a0 len0 cap0) q := by obtain ⟨fuel, hf⟩ := h0; exact parts_in hf
  have g1 : ∃ q, PartsAt W (.slice a1 len1 cap1) q := by obtain ⟨fuel, hf⟩ := h1; exact parts_in hf
  have g2 : RowsL W (.slice a2 len2 cap2) := by obtain ⟨fuel, hf⟩ := h2; exact rows_in hf
  have g3 : IntsL W (.slice a3 len3 cap3) := by obtain ⟨fuel, hf⟩ := h3; exact ints_in hf
  clear hA0 hval0
  refine (walk _ _ _ _ W g0 g1 g2 g3).mono fun e W' ⟨he, bel⟩ => ?_
  subst he
  exact ⟨_, rfl, _, _, _, [], _, [], hW', trodAll_mk1 (shut_bool Try.underlying4 _), (trodAll_cons_mk (Below.trod laidOut (by kernel_rfl) (of_decide_eq_true (by kernel_rfl)) k0 bel lt0) (trodAll_cons_mk (Below.trod laidOut (by kernel_rfl) (of_decide_eq_true (by kernel_rfl)) k1 bel lt1)
    (trodAll_cons_mk (Below.trod laidOut (by kernel_rfl) (of_decide_eq_true (by kernel_rfl)) k2 bel lt2) (trodAll_cons_mk (Below.trod laidOut (by kernel_rfl) (of_decide_eq_true (by kernel_rfl)) k3 bel lt3) trodAll_mk0)))), rfl, bel.frame _, fun h => by cases h⟩

theorem over : Rows.queryLawsRow.holds Try.pinned (OpenSpec.ofChange Rows.queryLawsSpec) :=
  OpenClaim.holds_of_wide 6 Try.f6 rfl rfl rfl rfl rfl rfl rfl ⟨rfl, rfl, rfl, rfl, rfl⟩ rfl rfl rfl rfl rfl (by kernel_rfl) Try.func6 (by kernel_rfl)
    (of_decide_eq_true (by kernel_rfl)) (by unfold Func.isWrapper; first | (rw [if_pos (by decide +kernel)]; kernel_rfl) | (rw [if_neg (by decide +kernel)]; exact ⟨rfl, rfl⟩))
    (fun os started H enc _ => lifted os started H enc)

/-- The statement. -/
theorem proved : Rows.QueryLawsSaid := over
#print axioms proved
end Go.Proofs.Ytpobpijjpbggoaa.queryLaws
