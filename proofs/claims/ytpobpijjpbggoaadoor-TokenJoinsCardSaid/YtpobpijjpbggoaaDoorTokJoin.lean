/- tendrillaw22.TokenJoins: the walk. -/
import Derived.Test.YtpobpijjpbggoaaDoorTok4
set_option linter.unusedSimpArgs false
set_option linter.unusedVariables false
namespace Go.Proofs.YtpobpijjpbggoaaDoor
open Go.RowKit Go.Shelf Go.Ten Go.Ten.Qy Go.Ten.Tk

attribute [local go_sem] toList_lit
theorem cat_mk (x y : List UInt8) : (ByteArray.mk x.toArray ++ ByteArray.mk y.toArray) = ByteArray.mk (x ++ y).toArray := ByteArray.mk_append_mk x y
section
variable {P : Program}
theorem run_append_of_nil (w : World) (base : Nat) (t ty e : TypeId) (i : TypeInfo) (size : Nat) (ht : P.underlying t = some (.slice e)) (hi : P.info? e = some i)
    (v : Value) (n : Nat) (xs : List Value) (hown : w.ownsRow base e size v n xs) (c : Nat) : (Builtin.append_ #[t, t] ty #[v, .slice none 0 c]).run P w = .ok v w := by
  rcases hown.2 with ⟨rfl, rfl⟩ | ⟨g, cap, cur, rfl, _, _, hnc, _⟩
  · simp [Builtin.append_, run_underlying ht, sizeOf, typeInfo, hi, Builtin.lenOf, Builtin.firstCells]
  · simp [Builtin.append_, run_underlying ht, sizeOf, typeInfo, hi, Builtin.lenOf, Builtin.firstCells, hnc, storeCells]
end
theorem add_addr (B o j : Nat) : ((⟨B, o, none⟩ : Addr).add j) = ⟨B, o + j, none⟩ := by simp only [Addr.add]; split <;> simp_all
theorem strs_cell {w : World} {v : Value} {q : List (List UInt8)} {blk off len cap : Nat} (h : StrsR w v q) (hv : v = .slice (some ⟨blk, off, none⟩) len cap) : ∀ j u, (strs q)[j]? = some u → w.cell? ((⟨blk, off, none⟩ : Addr).add j) = some u := by
  obtain ⟨p, c, rfl, hl, hc⟩ := h
  simp only [Value.slice.injEq] at hv
  obtain ⟨rfl, _, _⟩ := hv
  intro j u hj
  have hlt : j < q.length := by
    have := (List.getElem?_eq_some_iff.1 hj).1
    simpa [strs] using this
  rw [add_addr]
  obtain ⟨blk', off', e, h1⟩ := hc j hlt
  simp only [Option.some.injEq, Addr.mk.injEq] at e
  obtain ⟨rfl, rfl, _⟩ := e
  rw [h1]
  simpa [strs, hlt] using hj

/-- Strings behind an own row of strings. -/
theorem wpl_append_strs {ops : Array Oper} {rest : List Oper} {o : Oper} {a : Act} {Q : Exit → Act → World → Prop} (w : World) (s x : Operand) (t : TypeId) (hgd : o.guard = none) (ho : o.op = .call { callee := .builtin .append, args := #[s, x], argTypes := #[t, t] })
    (ht : Tryd.prog.underlying t = some (.slice 9)) (p : Option Addr) (n c : Nat) (q : List (List UInt8)) (base : Nat) (hs : a.eval s = .slice p n c) (vx : Value) (r : List (List UInt8)) (hx : a.eval x = vx)
    (hr : StrsR w vx r) (hn : q.length = n) (hown : w.ownsRow base 9 1 (.slice p n c) n (strs q)) (hbase : base ≤ w.heap.size) (hl : n + r.length ≤ 4294967296)
    (h : ∀ p' c' w', w'.ownsRow base 9 1 (.slice p' (n + r.length) c') (n + r.length) (strs (q ++ r)) → Upd (fun k => some k = (Value.slice p n c).ownBlock) w w' → wpList Tryd.prog ops Q rest (a.put o.dst (.slice p' (n + r.length) c')) w') :
    wpList Tryd.prog ops Q (o :: rest) a w := by
  have hi := info_str
  cases hii : Tryd.prog.info? 9 with
  | none => simp [hii] at hi
  | some i =>
    simp only [hii, Option.map_some, Option.some.injEq, Prod.mk.injEq] at hi
    obtain ⟨hz, hsz, hby⟩ := hi
    cases hzz : i.zero with
    | none => simp [hzz] at hz
    | some z =>
    simp only [hzz, Option.map_some, Option.some.injEq] at hz
    have hr0 := hr
    obtain ⟨px, cx, rfl, hql, hc⟩ := hr0
    rcases px with _ | ad
    · have hr1 : r = [] := by
        rcases r with _ | ⟨y, r⟩
        · rfl
        · obtain ⟨_, _, e, _⟩ := hc 0 (by simp); cases e
      subst hr1
      have hrun := run_append_of_nil (P := Tryd.prog) w base t o.type 9 i 1 ht hii (.slice p n c) n _ hown cx
      refine wpList_plain hgd fun K hK => ?_
      unfold Oper.wp execOp
      simp only [List.length_nil] at hx
      simp only [ho, resolve, invoke, builtin, Sem.run_bind, Sem.run_pure, Result.andThen_ok, List.map_toArray, List.map_cons, List.map_nil, hs, hx, hrun]
      have := h p c w (by simpa using hown) (Upd.refl _ _)
      simp only [List.length_nil, Nat.add_zero] at this
      exact hK _ _ this
    · have hcells : ∀ j u, (strs r)[j]? = some u → w.cell? (ad.add j) = some u := by
        rcases r with _ | ⟨y, r⟩
        · exact fun j u hj => by simp [strs] at hj
        · obtain ⟨b', o', e, _⟩ := hc 0 (by simp)
          simp only [Option.some.injEq] at e
          subst e
          exact strs_cell hr rfl
      refine wpList_append_own_at w hgd s x t ho base 9 i z 1 16 ht hii hzz hsz hby hz (by omega) _ n (strs q) hs hown ad r.length cx (strs r) hx (by simp [strs]) hcells ?_ ?_ ?_ hbase ?_
      · intro u hu
        obtain ⟨y, _, hy⟩ := List.mem_map.1 hu
        subst hy
        rfl
      · unfold maxLen; omega
      · calc (n + r.length) * 16 ≤ 4294967296 * 16 := Nat.mul_le_mul hl (Nat.le_refl _)
          _ ≤ 140737488355328 := by decide
      · intro v' w' h1 h2 _ _
        obtain ⟨p', cap', rfl, _, _⟩ := own_form h1
        exact h p' cap' w' (by simpa [strs] using h1) (upd_of_grown h2)

theorem info_byte : (Tryd.prog.info? 5).map (fun i => (i.zero.map (fun z => z.cells.size), i.size, i.bytes)) = some (some 1, 1, 1) := by kernel_rfl
def u8s (l : List UInt8) : List Value := l.map fun c => .int .u8 c.toNat
theorem conv_bytes {w : World} {B : Nat} {p : Option Addr} {c : Nat} {acc : List UInt8} (h : w.ownsRow B 5 1 (.slice p acc.length c) acc.length (u8s acc)) :
    (convert 28 9 (.slice p acc.length c)).run Tryd.prog w = .ok (.string ⟨acc.toArray⟩) w := by
  obtain ⟨p', cap', hv, hp0, hp1⟩ := own_form h
  simp only [Value.slice.injEq] at hv
  obtain ⟨rfl, _, rfl⟩ := hv
  rcases p with _ | a
  · have := hp0 rfl
    have e : acc = [] := List.eq_nil_of_length_eq_zero this
    subst e
    rw [run_convert_bytes_string w _ _ _ none _ c Tryd.underlying28 Tryd.underlying5 Tryd.underlying9]
    rfl
  · have ea := hp1 a rfl
    rw [ea] at h ⊢
    refine run_convert_bytes_back w _ _ _ _ c acc Tryd.underlying28 Tryd.underlying5 Tryd.underlying9 ?_
    intro j hj
    have := h.cells (g := a.block) rfl j (.int .u8 acc[j].toNat) (by simp [u8s, hj])
    exact this
theorem up_yes {x : UInt8} (h1 : 97 ≤ (x.toNat : Int)) (h2 : (x.toNat : Int) ≤ 122) : ((up x).toNat : Int) = (x.toNat : Int) - 32 := by
  have h : ∀ n : Fin 256, 97 ≤ ((UInt8.ofFin n).toNat : Int) → ((UInt8.ofFin n).toNat : Int) ≤ 122 → ((up (UInt8.ofFin n)).toNat : Int) = ((UInt8.ofFin n).toNat : Int) - 32 := by decide +kernel
  exact h x.toFin h1 h2
theorem up_no {x : UInt8} (h : ¬ (97 ≤ (x.toNat : Int) ∧ (x.toNat : Int) ≤ 122)) : ((up x).toNat : Int) = (x.toNat : Int) := by
  have h' : ∀ n : Fin 256, ¬ (97 ≤ ((UInt8.ofFin n).toNat : Int) ∧ ((UInt8.ofFin n).toNat : Int) ≤ 122) → ((up (UInt8.ofFin n)).toNat : Int) = ((UInt8.ofFin n).toNat : Int) := by decide +kernel
  exact h' x.toFin h

set_option maxRecDepth 100000 in
set_option maxHeartbeats 8000000 in
theorem joins_calls (a b : List UInt8) (ha : a.length ≤ 140737488351232) (hb : b.length ≤ 140737488351232) (w : World) : Calls Tryd.prog 3 #[.string ⟨a.toArray⟩, .string ⟨b.toArray⟩] w fun e w' => e = .returned (.bool true) ∧ Below w.heap.size w w' := by
  have hsa := size_str a
  have hsb := size_str b
  go_enter Tryd.func3, Tryd.ntmps3
  obtain ⟨LA, hLA⟩ : ∃ L, a.length = L := ⟨_, rfl⟩
  obtain ⟨LB, hLB⟩ : ∃ L, b.length = L := ⟨_, rfl⟩
  rw [hLA] at hsa ha
  rw [hLB] at hsb hb
  by_cases hlong : 512 ≤ LA + LB
  · replace hLA := Lib.hid hLA
    replace hLB := Lib.hid hLB
    have hcast : (512 : Int) ≤ (LA : Int) + (LB : Int) := by omega
    clear hlong
    go_wp2_with fail
    refine (runs_calls w).mono ?_
    rintro e w' ⟨rfl, hB⟩
    go_wp2_with fail
    go_ret
    exact ⟨rfl, hB⟩
  · have hcast2 : (LA : Int) + (LB : Int) < 512 := by omega
    have hT1 := terms_calls a (by omega) w
    have hT2 := terms_calls b (by omega)
    have hT3 := terms_calls (a ++ 32 :: b) (by simp; omega)
    have hcat1 : (ByteArray.mk a.toArray ++ ByteArray.mk #[32]) = ByteArray.mk (a ++ [32]).toArray := cat_mk a [32]
    have hcat2 : (ByteArray.mk (a ++ [32]).toArray ++ ByteArray.mk b.toArray) = ByteArray.mk (a ++ 32 :: b).toArray := by
      rw [cat_mk]; simp
    have hs32 : (ByteArray.mk (a ++ [32]).toArray).size = LA + 1 := by rw [size_str]; simp; omega
    have hup := termsOf_up a
    have hT4 := terms_calls (a.map up) (by simp; omega)
    rw [hup] at hT4
    have hmem := mem_join a b
    have hright := fun x => @term_right (a ++ 32 :: b) x
    have hrise := termsOf_sorted (a ++ 32 :: b)
    obtain ⟨X, hX⟩ : ∃ X, termsOf a = X := ⟨_, rfl⟩
    obtain ⟨Y, hY⟩ : ∃ Y, termsOf b = Y := ⟨_, rfl⟩
    obtain ⟨Z, hZ⟩ : ∃ Z, termsOf (a ++ 32 :: b) = Z := ⟨_, rfl⟩
    have hXl := termsOf_len a
    have hYl := termsOf_len b
    have hZl := termsOf_len (a ++ 32 :: b)
    rw [hX] at hT1 hXl
    simp only [hY] at hT2 hYl
    simp only [hZ] at hT3 hZl hright hrise
    simp only [hX] at hT4
    simp only [hX, hY, hZ] at hmem
    simp at hZl
    have hXl2 : X.length ≤ 513 := by omega
    have hYl2 : Y.length ≤ 513 := by omega
    have hZl2 : Z.length ≤ 514 := by omega
    clear hX hY hZ hup hXl hYl hZl
    obtain ⟨LX, hLX⟩ : ∃ L, X.length = L := ⟨_, rfl⟩
    obtain ⟨LY, hLY⟩ : ∃ L, Y.length = L := ⟨_, rfl⟩
    obtain ⟨LZ, hLZ⟩ : ∃ L, Z.length = L := ⟨_, rfl⟩
    rw [hLX] at hT1 hXl2
    simp only [hLX] at hT4
    simp only [hLY] at hT2 hYl2
    simp only [hLZ] at hT3 hZl2
    replace hLA := Lib.hid hLA
    replace hLB := Lib.hid hLB
    replace hLX := Lib.hid hLX
    replace hLY := Lib.hid hLY
    replace hLZ := Lib.hid hLZ
    replace hmem := Lib.hid hmem
    replace hright := Lib.hid hright
    replace hrise := Lib.hid hrise
    replace hT4 := Lib.hid hT4
    go_wp2_with fail
    refine hT1.mono ?_
    rintro e w1 ⟨p1, c1, rfl, ho1, hb1⟩
    go_wp2_with fail
    refine (hT2 w1).mono ?_
    rintro e w2 ⟨p2, c2, rfl, ho2, hb2⟩
    have hT3' := hT3 w2
    clear hT1 hT2 hT3
    go_wp2_with fail
    refine hT3'.mono ?_
    rintro e w3 ⟨p3, c3, rfl, ho3, hb3⟩
    clear hT3' hcat1 hcat2 hs32
    have hsz1 := hb1.size
    have hsz2 := hb2.size
    have hsz3 := hb3.size
    have hbw3 : Below w.heap.size w w3 := (hb1.trans (hb2.mono (by omega))).trans (hb3.mono (by omega))
    have rX : StrsR w3 (.slice p1 LX c1) X := by
      have h0 : StrsR w1 (.slice p1 LX c1) X := by have := hLX.out; subst this; exact StrsR.of_owns ho1 (by omega)
      exact (h0.grew hb2).grew hb3
    have rY : StrsR w3 (.slice p2 LY c2) Y := by
      have h0 : StrsR w2 (.slice p2 LY c2) Y := by have := hLY.out; subst this; exact StrsR.of_owns ho2 (by omega)
      exact h0.grew hb3
    have rZ : StrsR w3 (.slice p3 LZ c3) Z := by have := hLZ.out; subst this; exact StrsR.of_owns ho3 (by omega)
    clear ho1 ho2 ho3 hb1 hb2 hb3
    obtain ⟨_, _, hv1, _, hcX⟩ := id rX
    obtain ⟨_, _, hv2, _, hcY⟩ := id rY
    obtain ⟨_, _, hv3, _, hcZ⟩ := id rZ
    simp only [Value.slice.injEq] at hv1 hv2 hv3
    obtain ⟨rfl, -, -⟩ := hv1
    obtain ⟨rfl, -, -⟩ := hv2
    obtain ⟨rfl, -, -⟩ := hv3
    simp only [hLX.out] at hcX
    simp only [hLY.out] at hcY
    simp only [hLZ.out] at hcZ
    replace rX := Lib.hid rX
    replace rY := Lib.hid rY
    replace rZ := Lib.hid rZ
    replace hbw3 := Lib.hid hbw3
    go_wp2_with fail
    go_loopw [65] (fun v wr => ∃ k : Nat, v = .int .i64 k ∧ k ≤ LZ ∧ w3 = wr) (fun v _ => LZ - (intOf v).toNat)
    case atStart => exact ⟨0, rfl, by omega, rfl⟩
    case round =>
      obtain ⟨k, rfl, hk, hw⟩ := hrel
      subst hw
      by_cases hlt : k < LZ
      · have hcast : (k : Int) < (LZ : Int) := by omega
        obtain ⟨bz, oz, e, hz1⟩ := hcZ k hlt
        subst e
        have hkz : k < Z.length := by have := hLZ.out; omega
        have hprev : 0 < k → ∃ y, w3.cell? ⟨bz, oz + (k - 1), none⟩ = some (.string ⟨y.toArray⟩) ∧ Op.bytesLess Z[k] y = false ∧ (Z[k] == y) = false := by
          intro h0
          obtain ⟨b', o', e, h1⟩ := hcZ (k - 1) (by omega)
          simp only [Option.some.injEq, Addr.mk.injEq] at e
          obtain ⟨rfl, rfl, _⟩ := e
          have hlt2 : Z[k - 1] < Z[k] := List.pairwise_iff_getElem.1 hrise.out (k - 1) k (by omega) hkz (by omega)
          refine ⟨Z[k - 1], h1, ?_, ?_⟩
          · rw [less_iff]; simp; exact List.le_of_lt hlt2
          · simp; intro e; rw [e] at hlt2; exact List.lt_irrefl _ hlt2
        have hm := (hmem.out Z[k]).1 (List.getElem_mem hkz)
        have hrt := right_calls Z[k] w3 (hright.out Z[k] (List.getElem_mem hkz))
        generalize Z[k] = t at *
        replace hprev := Lib.hid hprev
        replace hm := Lib.hid hm
        replace hrt := Lib.hid hrt
        clear hcZ
        go_wp2_with fail
        go_loopw [72, 13] (fun vi vin wr => ∃ (j : Nat) (bi : Bool), vi = .int .i64 j ∧ j ≤ LX ∧ vin = .bool bi ∧ Hid (bi = true ↔ t ∈ X.take j) ∧ w3 = wr) (fun v _ _ => LX - (intOf v).toNat)
        case atStart => exact ⟨0, false, rfl, by omega, rfl, Lib.hid (by simp), rfl⟩
        case round =>
          obtain ⟨j, bi, rfl, hj, rfl, hbi, hw⟩ := hrel
          subst hw
          by_cases hlj : j < LX
          · have hcj : (j : Int) < (LX : Int) := by omega
            obtain ⟨bx, ox, e, hx1⟩ := hcX j hlj
            subst e
            have htk : X.take (j + 1) = X.take j ++ [X[j]'(by have := hLX.out; omega)] := List.take_succ_eq_append_getElem _
            generalize X[j]'(by have := hLX.out; omega) = u at *
            replace htk := Lib.hid htk
            clear hcX
            cases bi with
            | true =>
              go_wp2_with fail
              go_roundw
              case rel => exact ⟨j + 1, true, by simp, by omega, rfl, Lib.hid (by have := hbi.out; rw [htk.out]; simp at this ⊢; grind), trivial⟩
              case measure => simp [intOf]; omega
            | false =>
              by_cases hut : u = t
              · subst hut
                go_wp2_with fail
                go_roundw
                case rel => exact ⟨j + 1, true, by simp, by omega, rfl, Lib.hid (by rw [htk.out]; simp), trivial⟩
                case measure => simp [intOf]; omega
              · have hutb : (u == t) = false := by simpa using hut
                have hut2 := Lib.hid hut
                clear hut
                go_wp2_with fail
                go_roundw
                case rel => exact ⟨j + 1, false, by simp, by omega, rfl, Lib.hid (by have h1 := hbi.out; have h2 := hut2.out; rw [htk.out]; simp at h1 ⊢; grind), trivial⟩
                case measure => simp [intOf]; omega
          · have hjl : LX = j := by omega
            subst hjl
            rw [List.take_of_length_le (by have := hLX.out; omega)] at hbi
            go_wp2_with fail
            go_loopw [85, 13] (fun vi vin wr => ∃ (j : Nat) (bi : Bool), vi = .int .i64 j ∧ j ≤ LY ∧ vin = .bool bi ∧ Hid (bi = true ↔ (t ∈ X ∨ t ∈ Y.take j)) ∧ w3 = wr) (fun v _ _ => LY - (intOf v).toNat)
            case atStart => exact ⟨0, bi, rfl, by omega, rfl, Lib.hid (by have := hbi.out; simp at this ⊢; exact this), rfl⟩
            case round =>
              clear hbi hcX
              obtain ⟨j, bi, rfl, hj, rfl, hbi, hw⟩ := hrel
              subst hw
              by_cases hlj : j < LY
              · have hcj : (j : Int) < (LY : Int) := by omega
                obtain ⟨bx, ox, e, hx1⟩ := hcY j hlj
                subst e
                have htk : Y.take (j + 1) = Y.take j ++ [Y[j]'(by have := hLY.out; omega)] := List.take_succ_eq_append_getElem _
                generalize Y[j]'(by have := hLY.out; omega) = u at *
                replace htk := Lib.hid htk
                clear hcY
                cases bi with
                | true =>
                  go_wp2_with fail
                  go_roundw
                  case rel => exact ⟨j + 1, true, by simp, by omega, rfl, Lib.hid (by have := hbi.out; rw [htk.out]; simp at this ⊢; grind), trivial⟩
                  case measure => simp [intOf]; omega
                | false =>
                  by_cases hut : u = t
                  · subst hut
                    go_wp2_with fail
                    go_roundw
                    case rel => exact ⟨j + 1, true, by simp, by omega, rfl, Lib.hid (by rw [htk.out]; simp), trivial⟩
                    case measure => simp [intOf]; omega
                  · have hutb : (u == t) = false := by simpa using hut
                    have hut2 := Lib.hid hut
                    clear hut
                    go_wp2_with fail
                    go_roundw
                    case rel => exact ⟨j + 1, false, by simp, by omega, rfl, Lib.hid (by have h1 := hbi.out; have h2 := hut2.out; rw [htk.out]; simp at h1 ⊢; grind), trivial⟩
                    case measure => simp [intOf]; omega
              · have hjl : LY = j := by omega
                subst hjl
                rw [List.take_of_length_le (by have := hLY.out; omega)] at hbi
                have hbt : bi = true := hbi.out.2 hm.out
                subst hbt
                clear hbi hcY
                by_cases h0 : k = 0
                · subst h0
                  go_wp2_with fail
                  refine hrt.out.mono ?_
                  rintro e w' ⟨rfl, rfl⟩
                  go_wp2_with fail
                  go_roundw
                  case rel => exact ⟨1, by simp, by omega, trivial⟩
                  case measure => simp [intOf]; omega
                · obtain ⟨m, rfl⟩ : ∃ m, k = m + 1 := ⟨k - 1, by omega⟩
                  obtain ⟨y, hy1, hy2, hy3⟩ := hprev.out (by omega)
                  simp only [Nat.add_sub_cancel] at hy1
                  clear h0
                  go_wp2_with fail
                  refine hrt.out.mono ?_
                  rintro e w' ⟨rfl, rfl⟩
                  go_wp2_with fail
                  go_roundw
                  case rel => exact ⟨m + 2, by simp; omega, by omega, trivial⟩
                  case measure => simp [intOf]; omega
      · have hkl : LZ = k := by omega
        subst hkl
        have hb0 := Lib.hid (show Below w3.heap.size w3 (w3.alloc (.cells #[] 9)) from (Below.refl _ _).alloc (Nat.le_refl _) _)
        go_wp2_with (refine wpl_append_strs _ (.tmp 117) (.tmp 118) 23 rfl rfl Tryd.underlying23 (some ⟨w3.heap.size, 0, none⟩) 0 0 [] w3.heap.size rfl (.slice p1 LX c1) X rfl ?a1 ?a2 ?a3 ?a4 ?a5 ?a6)
        case a1 => exact rX.out.grew hb0.out
        case a2 => rfl
        case a3 => exact ⟨rfl, .inr ⟨w3.heap.size, 0, #[], rfl, Nat.le_refl _, Blk.new w3 [] 9, Nat.le_refl _, by unfold maxLen; omega, rfl, rfl⟩⟩
        case a4 => simp
        case a5 => have := hLX.out; omega
        case a6 =>
          have hXl : X.length = LX := hLX.out
          rw [hXl]
          intro p4 c4 w4 ho4 hu4
          have hb4 : Below w3.heap.size w3 w4 := hb0.out.trans (hu4.below (by simp) fun k hk e => by simp [Value.ownBlock] at e; omega)
          have hsz4 := hb4.size
          replace hXl := Lib.hid hXl
          replace hb4 := Lib.hid hb4
          replace ho4 := Lib.hid ho4
          clear hu4 hb0
          go_wp2_with (refine wpl_append_strs _ (.tmp 119) (.tmp 120) 23 rfl rfl Tryd.underlying23 p4 LX c4 X w3.heap.size rfl (.slice p2 LY c2) Y rfl ?b1 ?b2 ?b3 ?b4 ?b5 ?b6)
          case b1 => exact rY.out.grew hb4.out
          case b2 => exact hXl.out
          case b3 => exact ho4.out
          case b4 => omega
          case b5 => have := hLY.out; omega
          case b6 =>
            have hYl : Y.length = LY := hLY.out
            rw [hYl]
            intro p5 c5 w5 ho5 hu5
            have hb5 : Below w3.heap.size w3 w5 := hu5.below_own ho4.out hsz4 hb4.out
            have hsz5 := hb5.size
            obtain ⟨LM, hLM⟩ : ∃ L, LX + LY = L := ⟨_, rfl⟩
            rw [hLM] at ho5 ⊢
            have hLM2 : LM ≤ 1100 := by omega
            have hUl : (X ++ Y).length = LM := by rw [List.length_append, hXl.out, hYl, hLM]
            have rU : StrsR w5 (.slice p5 LM c5) (X ++ Y) := by
              have : ∀ L, (X ++ Y).length = L → w5.ownsRow w3.heap.size 9 1 (.slice p5 L c5) L (strs (X ++ Y)) → StrsR w5 (.slice p5 L c5) (X ++ Y) := by
                intro L hL h; subst hL; exact StrsR.of_owns h (by omega)
              exact this LM hUl ho5
            have hmU : ∀ u ∈ X ++ Y, u ∈ Z := fun u hu => (hmem.out u).2 (List.mem_append.1 hu)
            have rZ5 := rZ.out.grew hb5
            have rX5 := rX.out.grew hb5
            generalize X ++ Y = U at *
            obtain ⟨_, _, hv1, _, hcU⟩ := id rU
            obtain ⟨_, _, hv3, _, hcZ5⟩ := id rZ5
            simp only [Value.slice.injEq] at hv1 hv3
            obtain ⟨rfl, -, -⟩ := hv1
            obtain ⟨rfl, -, -⟩ := hv3
            simp only [hUl] at hcU
            simp only [hLZ.out] at hcZ5
            have hbw5 : Below w.heap.size w w5 := hbw3.out.trans (hb5.mono (by have := hbw3.out.size; omega))
            have hsz5w : w.heap.size ≤ w5.heap.size := hbw5.size
            replace rX5 := Lib.hid rX5
            replace hUl := Lib.hid hUl
            replace hmU := Lib.hid hmU
            replace hbw5 := Lib.hid hbw5
            clear rU rZ5 ho4 hb4 ho5 hu5 hb5 hYl hXl hLM hcX hcY hcZ rY rZ rX hsz1 hsz2 hsz3 hsz4 hsz5 hbw3
            go_wp2_with fail
            go_loopw [123] (fun v wr => ∃ k : Nat, v = .int .i64 k ∧ k ≤ LM ∧ w5 = wr) (fun v _ => LM - (intOf v).toNat)
            case atStart => exact ⟨0, rfl, by omega, rfl⟩
            case round =>
              obtain ⟨k, rfl, hk, hw⟩ := hrel
              subst hw
              by_cases hlt : k < LM
              · have hcast : (k : Int) < (LM : Int) := by omega
                obtain ⟨bu, ou, e, hu1⟩ := hcU k hlt
                subst e
                have hku : k < U.length := by have := hUl.out; omega
                have hm := hmU.out U[k] (List.getElem_mem hku)
                generalize U[k] = t at *
                replace hm := Lib.hid hm
                clear hcU
                go_wp2_with fail
                go_loopw [129, 20] (fun vi vin wr => ∃ (j : Nat) (bi : Bool), vi = .int .i64 j ∧ j ≤ LZ ∧ vin = .bool bi ∧ Hid (bi = true ↔ t ∈ Z.take j) ∧ w5 = wr) (fun v _ _ => LZ - (intOf v).toNat)
                case atStart => exact ⟨0, false, rfl, by omega, rfl, Lib.hid (by simp), rfl⟩
                case round =>
                  obtain ⟨j, bi, rfl, hj, rfl, hbi, hw⟩ := hrel
                  subst hw
                  by_cases hlj : j < LZ
                  · have hcj : (j : Int) < (LZ : Int) := by omega
                    obtain ⟨bx, ox, e, hx1⟩ := hcZ5 j hlj
                    subst e
                    have htk : Z.take (j + 1) = Z.take j ++ [Z[j]'(by have := hLZ.out; omega)] := List.take_succ_eq_append_getElem _
                    generalize Z[j]'(by have := hLZ.out; omega) = u at *
                    replace htk := Lib.hid htk
                    clear hcZ5
                    cases bi with
                    | true =>
                      go_wp2_with fail
                      go_roundw
                      case rel => exact ⟨j + 1, true, by simp, by omega, rfl, Lib.hid (by have := hbi.out; rw [htk.out]; simp at this ⊢; grind), trivial⟩
                      case measure => simp [intOf]; omega
                    | false =>
                      by_cases hut : t = u
                      · subst hut
                        go_wp2_with fail
                        go_roundw
                        case rel => exact ⟨j + 1, true, by simp, by omega, rfl, Lib.hid (by rw [htk.out]; simp), trivial⟩
                        case measure => simp [intOf]; omega
                      · have hutb : (t == u) = false := by simpa using hut
                        have hut2 := Lib.hid hut
                        clear hut
                        go_wp2_with fail
                        go_roundw
                        case rel => exact ⟨j + 1, false, by simp, by omega, rfl, Lib.hid (by have h1 := hbi.out; have h2 := hut2.out; rw [htk.out]; simp at h1 ⊢; grind), trivial⟩
                        case measure => simp [intOf]; omega
                  · have hjl : LZ = j := by omega
                    subst hjl
                    rw [List.take_of_length_le (by have := hLZ.out; omega)] at hbi
                    have hbt : bi = true := hbi.out.2 hm.out
                    subst hbt
                    clear hbi hcZ5
                    go_wp2_with fail
                    go_roundw
                    case rel => exact ⟨k + 1, by simp, by omega, trivial⟩
                    case measure => simp [intOf]; omega
              · have hkl : LM = k := by omega
                subst hkl
                clear hcU hcZ5
                go_wp2_with fail
                go_loopw [23, 24] (fun vb vi wr => ∃ (k : Nat) (p : Option Addr) (c : Nat), vi = .int .i64 k ∧ k ≤ LA ∧ vb = .slice p k c ∧ wr.ownsRow w5.heap.size 5 1 (.slice p k c) k (u8s ((a.map up).take k)) ∧ Below w5.heap.size w5 wr) (fun _ v _ => LA - (intOf v).toNat)
                case atStart => exact ⟨0, none, 0, rfl, by omega, rfl, World.ownsRow_nil _ _ _ _, Below.refl _ _⟩
                case round =>
                  obtain ⟨k2, pb, cb, rfl, hk2, rfl, hob, hbb⟩ := hrel
                  have hszb := hbb.size
                  by_cases hlt2 : k2 < LA
                  · have hcast3 : (k2 : Int) < (LA : Int) := by omega
                    have hka : k2 < a.length := by have := hLA.out; omega
                    obtain ⟨x, hx⟩ : ∃ x, a[k2] = x := ⟨_, rfl⟩
                    have hi : (ByteArray.mk a.toArray)[k2]'(by rw [hsa]; exact hlt2) = x := hx
                    have htk2 : u8s ((a.map up).take (k2 + 1)) = u8s ((a.map up).take k2) ++ [.int .u8 (up x).toNat] := by
                      rw [List.take_succ_eq_append_getElem (by simpa using hka), u8s, List.map_append]
                      simp [u8s, hx]
                    have hx0 := x.toNat_lt
                    clear hx
                    replace htk2 := Lib.hid htk2
                    replace hob := Lib.hid hob
                    by_cases hlow : 97 ≤ (x.toNat : Int) ∧ (x.toNat : Int) ≤ 122
                    · obtain ⟨hlo1, hlo2⟩ := hlow
                      have hupx := Lib.hid (up_yes hlo1 hlo2)
                      go_wp2_with (refine wpl_appendk _ (.tmp 160) (.tmp 162) 28 5 rfl rfl 1 1 Tryd.underlying28 info_byte (by decide) (by decide) pb k2 cb (u8s ((a.map up).take k2)) w5.heap.size _ [.int .u8 ((x.toNat : Int) - 32)] rfl rfl rfl ?g1 ?g2 ?g3 ?g4 ?g5 ?g6)
                      case g1 => exact hob.out.alloc _
                      case g2 => first | omega | (simp; omega)
                      try (case g3 => exact one_new wr (.int .u8 ((x.toNat : Int) - 32)) 5)
                      case g4 => first | rfl | (intro u hu; simp at hu; subst hu; rfl)
                      case g5 => omega
                      case g6 =>
                        intro g' c' w2 hown hupd hg
                        go_wp2_with fail
                        go_roundw
                        case rel =>
                          refine ⟨k2 + 1, some ⟨g', 0, none⟩, c', by simp, by omega, by first | rfl | simp, ?_, ?_⟩
                          · rw [htk2.out, hupx.out]; exact hown
                          · exact hupd.below_own (hob.out.alloc _) (by simp; omega) (hbb.alloc hszb _)
                        case measure => simp [intOf]; omega
                    · have hupx := Lib.hid (up_no hlow)
                      have hsplit : (x.toNat : Int) < 97 ∨ (97 ≤ (x.toNat : Int) ∧ 122 < (x.toNat : Int)) := by omega
                      clear hlow
                      rcases hsplit with hlo1 | ⟨hlo1, hlo2⟩
                      · go_wp2_with (refine wpl_appendk _ (.tmp 160) (.tmp 162) 28 5 rfl rfl 1 1 Tryd.underlying28 info_byte (by decide) (by decide) pb k2 cb (u8s ((a.map up).take k2)) w5.heap.size _ [.int .u8 (x.toNat : Int)] rfl rfl rfl ?i1 ?i2 ?i3 ?i4 ?i5 ?i6)
                        case i1 => exact hob.out.alloc _
                        case i2 => first | omega | (simp; omega)
                        try (case i3 => exact one_new wr (.int .u8 (x.toNat : Int)) 5)
                        case i4 => first | rfl | (intro u hu; simp at hu; subst hu; rfl)
                        case i5 => omega
                        case i6 =>
                          intro g' c' w2 hown hupd hg
                          go_wp2_with fail
                          go_roundw
                          case rel =>
                            refine ⟨k2 + 1, some ⟨g', 0, none⟩, c', by simp, by omega, by first | rfl | simp, ?_, ?_⟩
                            · rw [htk2.out, hupx.out]; exact hown
                            · exact hupd.below_own (hob.out.alloc _) (by simp; omega) (hbb.alloc hszb _)
                          case measure => simp [intOf]; omega
                      · go_wp2_with (refine wpl_appendk _ (.tmp 160) (.tmp 162) 28 5 rfl rfl 1 1 Tryd.underlying28 info_byte (by decide) (by decide) pb k2 cb (u8s ((a.map up).take k2)) w5.heap.size _ [.int .u8 (x.toNat : Int)] rfl rfl rfl ?j1 ?j2 ?j3 ?j4 ?j5 ?j6)
                        case j1 => exact hob.out.alloc _
                        case j2 => first | omega | (simp; omega)
                        try (case j3 => exact one_new wr (.int .u8 (x.toNat : Int)) 5)
                        case j4 => first | rfl | (intro u hu; simp at hu; subst hu; rfl)
                        case j5 => omega
                        case j6 =>
                          intro g' c' w2 hown hupd hg
                          go_wp2_with fail
                          go_roundw
                          case rel =>
                            refine ⟨k2 + 1, some ⟨g', 0, none⟩, c', by simp, by omega, by first | rfl | simp, ?_, ?_⟩
                            · rw [htk2.out, hupx.out]; exact hown
                            · exact hupd.below_own (hob.out.alloc _) (by simp; omega) (hbb.alloc hszb _)
                          case measure => simp [intOf]; omega
                  · have hkl2 : LA = k2 := by omega
                    subst hkl2
                    have hml : (a.map up).length = LA := by rw [List.length_map]; exact hLA.out
                    rw [List.take_of_length_le (by omega)] at hob
                    have hconv : (convert 28 9 (.slice pb LA cb)).run Tryd.prog wr = .ok (.string ⟨(a.map up).toArray⟩) wr := by
                      have h0 : ∀ L, (a.map up).length = L → wr.ownsRow w5.heap.size 5 1 (.slice pb L cb) L (u8s (a.map up)) → (convert 28 9 (.slice pb L cb)).run Tryd.prog wr = .ok (.string ⟨(a.map up).toArray⟩) wr := by
                        intro L hL h; subst hL; exact conv_bytes h
                      exact h0 LA hml hob
                    have hT := hT4.out wr
                    replace hob := Lib.hid hob
                    replace hml := Lib.hid hml
                    go_wp2_with fail
                    refine hT.mono ?_
                    rintro e w6 ⟨p6, c6, rfl, ho6, hb6⟩
                    clear hT hconv
                    have rX6 : StrsR w6 (.slice p6 LX c6) X := by
                      have h0 : ∀ L, X.length = L → w6.ownsRow wr.heap.size 9 1 (.slice p6 L c6) L (strs X) → StrsR w6 (.slice p6 L c6) X := by
                        intro L hL h; subst hL; exact StrsR.of_owns h (by omega)
                      exact h0 LX hLX.out ho6
                    have rX7 : StrsR w6 (.slice p1 LX c1) X := (rX5.out.grew hbb).grew hb6
                    have hsame := same_str _ _ X X w6 rX6 rX7
                    have e1 : decide (X = X) = true := by simp
                    rw [e1] at hsame
                    have hbw6 : Below w.heap.size w w6 := (hbw5.out.trans (hbb.mono hsz5w)).trans (hb6.mono (by omega))
                    replace hsame := Lib.hid hsame
                    replace hbw6 := Lib.hid hbw6
                    clear ho6 e1 rX6 rX7
                    go_wp2_with fail
                    refine hsame.out.mono ?_
                    rintro e w7 ⟨rfl, n, rfl⟩
                    go_wp2_with fail
                    refine (runs_calls (w6.drewN n)).mono ?_
                    rintro e w8 ⟨rfl, hb8⟩
                    replace hb8 := Lib.hid hb8
                    go_wp2_with fail
                    go_ret
                    have hsz6 := hbw6.out.size
                    exact ⟨rfl, (hbw6.out.trans (below_dN _ n)).trans (hb8.out.mono hsz6)⟩
end Go.Proofs.YtpobpijjpbggoaaDoor
