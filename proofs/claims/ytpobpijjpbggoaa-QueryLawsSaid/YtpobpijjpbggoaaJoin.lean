/- package query: Terms; the two closures of tendrillaw23.QueryLaws. -/
import Derived.Test.YtpobpijjpbggoaaRuns
set_option linter.unusedSimpArgs false
set_option linter.unusedVariables false
namespace Go.Proofs.Ytpobpijjpbggoaa
open Go.RowKit Go.Ten Go.Ten.Qy Go.Ten.Mg

theorem terms_snoc (l : List Part) (x : Part) : terms (l ++ [x]) = if x.kind = 1 then terms l ++ [x.term] else terms l := by
  by_cases h : x.kind = 1 <;> simp [terms, h]

set_option maxRecDepth 100000 in
set_option maxHeartbeats 1000000 in
theorem terms_calls (v : Value) (q : List Part) (w : World) (h : PartsAt w v q) (hq64 : q.length ≤ 64) : Calls Try.prog 25 #[v] w fun e w' => ∃ p c, e = .returned (.slice p (terms q).length c) ∧ Below w.heap.size w w' := by
  obtain ⟨p, c, rfl, hql, htl, hc⟩ := h
  go_enter Try.func25, Try.ntmps25
  go_wp2_with fail
  go_loopw [3, 8] (fun vo vi wr => ∃ (k : Nat) (acc : List (List UInt8)) (pg : Option Addr) (N cg : Nat), vi = .int .i64 k ∧ k ≤ q.length ∧ acc = terms (q.take k) ∧ N = acc.length ∧ N ≤ k ∧ vo = .slice pg N cg ∧ wr.ownsRow w.heap.size 9 1 (.slice pg N cg) N (strs acc) ∧
      Below w.heap.size w wr) (fun _ v _ => q.length - (intOf v).toNat)
  case atStart => exact ⟨0, [], none, 0, 0, rfl, by omega, rfl, rfl, by omega, rfl, World.ownsRow_nil _ _ _ _, Below.refl _ _⟩
  case round =>
    obtain ⟨k, acc, pg, N, cg, rfl, hk, hacc, hN, hNk, rfl, ho, hbw⟩ := hrel
    replace hN := Lib.hid hN
    replace hacc := Lib.hid hacc
    have hszw := hbw.size
    by_cases hlt : k < q.length
    · obtain ⟨blk, off, rfl, h1, h2⟩ := hc k hlt
      have htake : q.take (k + 1) = q.take k ++ [q[k]] := List.take_succ_eq_append_getElem hlt
      have hts := terms_snoc (q.take k) q[k]
      generalize q[k] = x at *
      have g1 : wr.cell? ⟨blk, off + k * 2, none⟩ = some (.int .i64 x.kind) := cell_grew hbw h1
      have g2 : wr.cell? ⟨blk, off + k * 2 + 1, none⟩ = some (.string ⟨x.term.toArray⟩) := cell_grew hbw h2
      have hcast : (k : Int) < (q.length : Int) := by omega
      rw [← htake] at hts
      clear hc htake
      obtain ⟨xk, xt⟩ := x
      by_cases hk1 : xk = 1
      · subst hk1
        have hts' : terms (q.take (k + 1)) = acc ++ [xt] := by rw [hts, hacc.out]; simp
        replace hts' := Lib.hid hts'
        clear hts
        go_wp2_with (refine wpl_appendk _ (.tmp 15) (.tmp 18) 60 9 rfl rfl 1 16 Try.underlying60 info_str (by decide) (by decide) pg N cg (strs acc) w.heap.size _ [.string ⟨xt.toArray⟩] rfl rfl rfl ?h1 ?h2 ?h3 ?h4 ?h4b ?h5)
        case h1 => exact (ho.alloc _).alloc _
        case h2 => omega
        case h4 => rfl
        case h4b => omega
        case h5 =>
          intro g c' w2 hown hupd hg
          go_wp2_with fail
          go_roundw
          case rel =>
            refine ⟨k + 1, acc ++ [xt], some ⟨g, 0, none⟩, N + 1, c', by simp, by omega, hts'.out.symm, by simp [hN.out], by omega, by first | rfl | simp, ?_, ?_⟩
            · simpa [strs] using hown
            · exact hupd.below_own ((ho.alloc _).alloc _) (by simp; omega) ((hbw.alloc hszw _).alloc (by simp; omega) _)
          case measure => simp [intOf]; omega
      · have hts' : terms (q.take (k + 1)) = acc := by rw [hts, hacc.out]; simp [hk1]
        have hkb : (xk == 1) = false := by simpa using hk1
        replace hts' := Lib.hid hts'
        clear hts
        go_wp2_with fail
        go_roundw
        case rel => exact ⟨k + 1, acc, pg, N, cg, by simp, by omega, hts'.out.symm, hN.out, by omega, rfl, ho.alloc _, hbw.alloc hszw _⟩
        case measure => simp [intOf]; omega
    · have hkl : k = q.length := by omega
      subst hkl
      have e : terms q = acc := by rw [hacc.out, List.take_length]
      have eN : (terms q).length = N := by rw [e, hN.out]
      replace eN := Lib.hid eN
      clear e
      go_wp2_with fail
      go_ret
      exact ⟨pg, cg, by rw [eN.out]; rfl, hbw⟩

section
variable {P : Program}
theorem run_append_of_nil (w : World) (base : Nat) (t ty e : TypeId) (i : TypeInfo) (size : Nat) (ht : P.underlying t = some (.slice e)) (hi : P.info? e = some i)
    (v : Value) (n : Nat) (xs : List Value) (hown : w.ownsRow base e size v n xs) (c : Nat) : (Builtin.append_ #[t, t] ty #[v, .slice none 0 c]).run P w = .ok v w := by
  rcases hown.2 with ⟨rfl, rfl⟩ | ⟨g, cap, cur, rfl, _, _, hnc, _⟩
  · simp [Builtin.append_, run_underlying ht, sizeOf, typeInfo, hi, Builtin.lenOf, Builtin.firstCells]
  · simp [Builtin.append_, run_underlying ht, sizeOf, typeInfo, hi, Builtin.lenOf, Builtin.firstCells, hnc, storeCells]
end

theorem info_part2 : (Try.prog.info? 57).map (fun i => (i.zero.map (fun z => z.cells.size), i.size, i.bytes)) = some (some 2, 2, 24) := by kernel_rfl

theorem add_addr (B o j : Nat) : ((⟨B, o, none⟩ : Addr).add j) = ⟨B, o + j, none⟩ := by simp only [Addr.add]; split <;> simp_all

theorem flat_len (q : List Part) : (q.flatMap partCells).length = q.length * 2 := by
  induction q with
  | nil => rfl
  | cons x q ih => simp [List.flatMap_cons, partCells] at ih ⊢; omega
theorem flat_cell {w : World} {v : Value} {q : List Part} {blk off len cap : Nat} (h : PartsAt w v q) (hv : v = .slice (some ⟨blk, off, none⟩) len cap) : ∀ j u, (q.flatMap partCells)[j]? = some u → w.cell? ((⟨blk, off, none⟩ : Addr).add j) = some u := by
  obtain ⟨p, c, rfl, hql, htl, hc⟩ := h
  simp only [Value.slice.injEq] at hv
  obtain ⟨rfl, _, _⟩ := hv
  intro j u hj
  have hlt : j < q.length * 2 := by
    have := (List.getElem?_eq_some_iff.1 hj).1
    rwa [flat_len] at this
  rw [add_addr]
  obtain ⟨i, hi⟩ : ∃ i, j = i * 2 ∨ j = i * 2 + 1 := ⟨j / 2, by omega⟩
  obtain ⟨blk', off', e, h1, h2⟩ := hc i (by omega)
  simp only [Option.some.injEq, Addr.mk.injEq] at e
  obtain ⟨rfl, rfl, _⟩ := e
  obtain ⟨f1, f2⟩ := flat_get q i (by omega)
  rcases hi with rfl | rfl
  · rw [f1] at hj
    rw [h1]; exact hj
  · rw [f2] at hj
    rw [← Nat.add_assoc, h2]; exact hj

/-- Parts behind an own row of parts. -/
theorem wpl_append_parts {ops : Array Oper} {rest : List Oper} {o : Oper} {a : Act} {Q : Exit → Act → World → Prop} (w : World) (s x : Operand) (t : TypeId) (hgd : o.guard = none) (ho : o.op = .call { callee := .builtin .append, args := #[s, x], argTypes := #[t, t] })
    (ht : Try.prog.underlying t = some (.slice 57)) (p : Option Addr) (n c : Nat) (q : List Part) (base : Nat) (hs : a.eval s = .slice p n c) (vx : Value) (r : List Part) (hx : a.eval x = vx)
    (hr : PartsAt w vx r) (hn : q.length = n) (hown : w.ownsRow base 57 2 (.slice p n c) n (q.flatMap partCells)) (hbase : base ≤ w.heap.size) (hl : n + r.length ≤ 4294967296)
    (h : ∀ p' c' w', w'.ownsRow base 57 2 (.slice p' (n + r.length) c') (n + r.length) ((q ++ r).flatMap partCells) → Upd (fun k => some k = (Value.slice p n c).ownBlock) w w' → wpList Try.prog ops Q rest (a.put o.dst (.slice p' (n + r.length) c')) w') :
    wpList Try.prog ops Q (o :: rest) a w := by
  have hi := info_part2
  cases hii : Try.prog.info? 57 with
  | none => simp [hii] at hi
  | some i =>
    simp only [hii, Option.map_some, Option.some.injEq, Prod.mk.injEq] at hi
    obtain ⟨hz, hsz, hby⟩ := hi
    cases hzz : i.zero with
    | none => simp [hzz] at hz
    | some z =>
    simp only [hzz, Option.map_some, Option.some.injEq] at hz
    have hr0 := hr
    obtain ⟨px, cx, rfl, hql, htl, hc⟩ := hr0
    rcases px with _ | ad
    · have hr1 : r = [] := by
        rcases r with _ | ⟨y, r⟩
        · rfl
        · obtain ⟨_, _, e, _⟩ := hc 0 (by simp); cases e
      subst hr1
      have hrun := run_append_of_nil (P := Try.prog) w base t o.type 57 i 2 ht hii (.slice p n c) n _ hown cx
      refine wpList_plain hgd fun K hK => ?_
      unfold Oper.wp execOp
      simp only [List.length_nil] at hx
      simp only [ho, resolve, invoke, builtin, Sem.run_bind, Sem.run_pure, Result.andThen_ok, List.map_toArray, List.map_cons, List.map_nil, hs, hx, hrun]
      have := h p c w (by simpa using hown) (Upd.refl _ _)
      simp only [List.length_nil, Nat.add_zero] at this
      exact hK _ _ this
    · obtain ⟨had, hcells⟩ : (r = [] ∨ ad = ⟨ad.block, ad.off, none⟩) ∧ ∀ j u, (r.flatMap partCells)[j]? = some u → w.cell? (ad.add j) = some u := by
        rcases r with _ | ⟨y, r⟩
        · exact ⟨.inl rfl, fun j u hj => by simp at hj⟩
        · obtain ⟨b', o', e, _⟩ := hc 0 (by simp)
          simp only [Option.some.injEq] at e
          subst e
          exact ⟨.inr rfl, flat_cell hr rfl⟩
      refine wpList_append_own_at w hgd s x t ho base 57 i z 2 24 ht hii hzz hsz hby hz (by omega) _ n (q.flatMap partCells) hs hown ad r.length cx (r.flatMap partCells) hx (flat_len r) hcells ?_ ?_ ?_ hbase ?_
      · intro u hu
        obtain ⟨y, _, hy⟩ := List.mem_flatMap.1 hu
        simp [partCells] at hy
        rcases hy with rfl | rfl <;> rfl
      · unfold maxLen; omega
      · calc (n + r.length) * 24 ≤ 4294967296 * 24 := Nat.mul_le_mul hl (Nat.le_refl _)
          _ ≤ 140737488355328 := by decide
      · intro v' w' h1 h2 _ _
        obtain ⟨p', cap', rfl, _, _⟩ := own_form h1
        exact h p' cap' w' (by simpa using h1) (upd_of_grown h2)

set_option maxRecDepth 100000 in
set_option maxHeartbeats 1000000 in
theorem join_calls (va vb vc : Value) (q r l : List Part) (w : World) (ha : PartsAt w va q) (hb : PartsAt w vb r) (hc : PartsAt w vc l) (hl : q.length + r.length + l.length ≤ 4294967296) :
    Calls Try.prog 27 #[va, vb, vc] w fun e w' => ∃ p c, e = .returned (.slice p (q ++ r ++ l).length c) ∧ w'.ownsRow w.heap.size 57 2 (.slice p (q ++ r ++ l).length c) (q ++ r ++ l).length ((q ++ r ++ l).flatMap partCells) ∧ Below w.heap.size w w' := by
  obtain ⟨pa, ca, rfl, _, _, _⟩ := id ha
  obtain ⟨pb, cb, rfl, _, _, _⟩ := id hb
  obtain ⟨pc, cc, rfl, _, _, _⟩ := id hc
  have e1 : (q ++ r ++ l).length = q.length + r.length + l.length := by simp; omega
  rw [e1]
  replace e1 := Lib.hid e1
  have hb0 : Below w.heap.size w (w.alloc (.cells #[] 57)) := (Below.refl _ _).alloc (Nat.le_refl _) _
  go_enter Try.func27, Try.ntmps27
  go_wp2_with (refine wpl_append_parts _ (.tmp 7) (.tmp 8) 50 rfl rfl Try.underlying50 (some ⟨w.heap.size, 0, none⟩) 0 0 [] w.heap.size rfl _ q rfl ?a1 ?a2 ?a3 ?a4 ?a5 ?a6)
  case a1 => exact ha.grew hb0
  case a2 => rfl
  case a3 => exact ⟨rfl, .inr ⟨w.heap.size, 0, #[], rfl, Nat.le_refl _, Blk.new w [] 57, Nat.le_refl _, by unfold maxLen; omega, rfl, rfl⟩⟩
  case a4 => simp
  case a5 => omega
  case a6 =>
    intro p1 c1 w1 ho1 hu1
    have hb1 : Below w.heap.size w w1 := hb0.trans (hu1.below (by simp) fun k hk e => by simp [Value.ownBlock] at e; omega)
    have hsz1 := hb1.size
    go_wp2_with (refine wpl_append_parts _ (.tmp 9) (.tmp 10) 50 rfl rfl Try.underlying50 p1 q.length c1 q w.heap.size rfl _ r rfl ?b1 ?b2 ?b3 ?b4 ?b5 ?b6)
    case b1 => exact hb.grew hb1
    case b2 => rfl
    case b3 => exact ho1
    case b4 => omega
    case b5 => omega
    case b6 =>
      intro p2 c2 w2 ho2 hu2
      have hb2 : Below w.heap.size w w2 := hu2.below_own ho1 hsz1 hb1
      have hsz2 := hb2.size
      go_wp2_with (refine wpl_append_parts _ (.tmp 11) (.tmp 12) 50 rfl rfl Try.underlying50 p2 (q.length + r.length) c2 (q ++ r) w.heap.size rfl _ l rfl ?d1 ?d2 ?d3 ?d4 ?d5 ?d6)
      case d1 => exact hc.grew hb2
      case d2 => simp
      case d3 => rw [List.flatMap_append]; exact ho2
      case d4 => omega
      case d5 => omega
      case d6 =>
        intro p3 c3 w3 ho3 hu3
        have hb3 : Below w.heap.size w w3 := hu3.below_own ho2 hsz2 hb2
        go_wp2_with fail
        go_ret
        exact ⟨p3, c3, rfl, by rw [List.flatMap_append, List.flatMap_append, List.append_assoc]; exact ho3, hb3⟩
end Go.Proofs.Ytpobpijjpbggoaa
