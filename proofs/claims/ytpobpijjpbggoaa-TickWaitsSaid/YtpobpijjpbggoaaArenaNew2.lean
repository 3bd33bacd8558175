/- package arena: the walk of New. -/
import Derived.Test.YtpobpijjpbggoaaArenaNew
import Derived.Deep.RegionLaw
import Derived.Deep.AppendLies
set_option linter.unusedSimpArgs false
set_option linter.unusedVariables false
namespace Go.MemF
theorem ArMk.upto0 (ns : Nat → Nat) : ∀ m, m < 5 → (Ar.upto ns m).free[m]! = []
  | 0, _ => rfl
  | m + 1, h => (ArMk.addN (ArMk.upto ns m (by omega)) (by omega) (ns m)).none (m + 1) (by omega) h
theorem sumN_le (ns : Nat → Nat) : ∀ {m k : Nat}, m ≤ k → sumN ns m ≤ sumN ns k
  | m, 0, h => by rw [Nat.le_zero.1 h]; exact Nat.le_refl _
  | m, k + 1, h => by
    rcases Nat.lt_or_eq_of_le h with h | rfl
    · exact Nat.le_trans (sumN_le ns (by omega : m ≤ k)) (by simp only [sumN]; omega)
    · exact Nat.le_refl _
end Go.MemF
namespace Go.Proofs.Ytpobpijjpbggoaa
open Go.RowKit Go.Ten
theorem info_slot : (Try.prog.info? 121).map (fun i => (i.zero.map (fun z => z.cells.size), i.size, i.bytes)) = some (some 4, 4, 48) := by kernel_rfl
theorem step_appendk {P : Program} {ops : Array Oper} {o : Oper} {a : Act} {K : Act → World → Prop} {Q : Exit → Act → World → Prop} {E : Prop} (w : World) (s x : Operand) (t e : TypeId)
    (hgd : o.guard = none) (ho : o.op = .call { callee := .builtin .append, args := #[s, x], argTypes := #[t, t] })
    (size bytes : Nat) (ht : P.underlying t = some (.slice e)) (hi : (P.info? e).map (fun i => (i.zero.map (fun z => z.cells.size), i.size, i.bytes)) = some (some size, size, bytes)) (hsz0 : 0 < size) (hb : bytes ≤ 1024)
    (p : Option Addr) (n cap : Nat) (xs : List Value) (base B : Nat) (us : List Value) (hs : a.eval s = .slice p n cap) (hx : a.eval x = .slice (some ⟨B, 0, none⟩) 1 1) (hul : us.length = size)
    (hown : w.ownsRow base e size (.slice p n cap) n xs) (hbase : base ≤ w.heap.size) (hB : ∀ j u, us[j]? = some u → w.cell? ⟨B, j, none⟩ = some u) (hu : ∀ u ∈ us, u.oneCell' = true) (hn : n < 4294967296)
    (h : ∀ g cap' w', w'.ownsRow base e size (.slice (some ⟨g, 0, none⟩) (n + 1) cap') (n + 1) (xs ++ us) → Upd (fun k => some k = (Value.slice p n cap).ownBlock) w w' → (p = some ⟨g, 0, none⟩ ∨ w.heap.size ≤ g) →
      K (a.put o.dst (.slice (some ⟨g, 0, none⟩) (n + 1) cap')) w') : if Region.wanted o (yielded ops a.tmps) = true then Oper.wp P o a w K Q else E := by
  cases hii : P.info? e with
  | none => simp [hii] at hi
  | some i =>
    simp only [hii, Option.map_some, Option.some.injEq, Prod.mk.injEq] at hi
    obtain ⟨hz, hsz, hby⟩ := hi
    cases hzz : i.zero with
    | none => simp [hzz] at hz
    | some z =>
    simp only [hzz, Option.map_some, Option.some.injEq] at hz
    refine step_append_lies w hgd s x t ho base e i z size bytes ht hii hzz hsz hby hz hsz0 _ n xs hs hown ⟨B, 0, none⟩ 1 1 us hx (by omega) ?_ hu (by omega) ?_ ?_ hbase _ rfl ?_
    · intro j y hj
      have e : ((⟨B, 0, none⟩ : Addr).add j) = ⟨B, j, none⟩ := by simp only [Addr.add]; split <;> simp_all
      rw [e]
      exact hB j y hj
    · unfold maxLen; omega
    · calc (n + 1) * bytes ≤ 4294967296 * 1024 := Nat.mul_le_mul (by omega) hb
        _ ≤ 140737488355328 := by decide
    · intro g cap' w' h1 h2 h3 h4
      refine h g cap' w' h1 (upd_of_grown h2) ?_
      rcases h3 with h3 | h3
      · left
        cases p with
        | none => simp [Value.ownBlock] at h3
        | some q =>
          obtain ⟨p2, c2, hv, _, hp2⟩ := own_form hown
          simp only [Value.slice.injEq] at hv
          have := hp2 q hv.1.symm
          simp [Value.ownBlock] at h3
          rw [this, h3]
      · right; omega
def nsV (ns : Nat → Nat) : Value := .agg #[.int .i64 (ns 0), .int .i64 (ns 1), .int .i64 (ns 2), .int .i64 (ns 3), .int .i64 (ns 4)]
def NewArena (ns : Nat → Nat) (w : World) (e : Ending) (w' : World) : Prop := ∃ a X, e = .returned (.tuple #[.pointer (some ⟨a, 0, none⟩), .int .i64 0]) ∧ ArenaX w' a (MemF.Ar.upto ns 5) X ∧ (∀ k, AF a X k → w.heap.size ≤ k) ∧ Below w.heap.size w w'

theorem wpl_index {P : Program} (w : World) {ops : Array Oper} {rest : List Oper} {o : Oper} {a : Act} {Q : Exit → Act → World → Prop} (x i : Operand) (T : TypeId) (hgd : o.guard = none) (ho : o.op = .index T x i)
    (v u : Value) (hx : a.eval x = v) (hi : a.eval i = u) (r : Value) (hr : (Instr.index T v u).run P w = .ok r w) (h : wpList P ops Q rest (a.put o.dst r) w) : wpList P ops Q (o :: rest) a w := by
  refine wpList_plain hgd fun K hK => ?_
  unfold Oper.wp
  simp [execOp, ho, hx, hi, hr, Result.andThen]
  exact hK _ _ h
theorem idx5 (v0 v1 v2 v3 v4 : Value) (w : World) : (Instr.index 22 (.agg #[v0, v1, v2, v3, v4]) (.int .i64 0)).run Try.prog w = .ok v0 w ∧ (Instr.index 22 (.agg #[v0, v1, v2, v3, v4]) (.int .i64 1)).run Try.prog w = .ok v1 w ∧
    (Instr.index 22 (.agg #[v0, v1, v2, v3, v4]) (.int .i64 2)).run Try.prog w = .ok v2 w ∧ (Instr.index 22 (.agg #[v0, v1, v2, v3, v4]) (.int .i64 3)).run Try.prog w = .ok v3 w ∧ (Instr.index 22 (.agg #[v0, v1, v2, v3, v4]) (.int .i64 4)).run Try.prog w = .ok v4 w :=
  ⟨by kernel_rfl, by kernel_rfl, by kernel_rfl, by kernel_rfl, by kernel_rfl⟩
theorem idxN (ns : Nat → Nat) (k : Nat) (hk : k < 5) (w : World) : (Instr.index 22 (.agg #[.int .i64 (ns 0), .int .i64 (ns 1), .int .i64 (ns 2), .int .i64 (ns 3), .int .i64 (ns 4)]) (.int .i64 k)).run Try.prog w = .ok (.int .i64 (ns k)) w := by
  obtain ⟨h0, h1, h2, h3, h4⟩ := idx5 (.int .i64 (ns 0)) (.int .i64 (ns 1)) (.int .i64 (ns 2)) (.int .i64 (ns 3)) (.int .i64 (ns 4)) w
  match k, hk with
  | 0, _ => exact h0
  | 1, _ => exact h1
  | 2, _ => exact h2
  | 3, _ => exact h3
  | 4, _ => exact h4

set_option maxRecDepth 100000 in
set_option maxHeartbeats 4000000 in
theorem arena_new_calls (ns : Nat → Nat) (w : World) (h0 : 0 < MemF.sumN ns 5) (h1 : MemF.sumN ns 5 ≤ 1024) :
    Calls Try.prog 32 #[.agg #[.int .i64 (ns 0), .int .i64 (ns 1), .int .i64 (ns 2), .int .i64 (ns 3), .int .i64 (ns 4)]] w (NewArena ns w) := by
  have hsum : ∀ k, MemF.sumN ns (k + 1) = MemF.sumN ns k + ns k := fun _ => rfl
  have hle : ∀ k, k ≤ 5 → MemF.sumN ns k ≤ 1024 := fun k hk => Nat.le_trans (MemF.sumN_le ns hk) h1
  replace hsum := Lib.hid hsum
  replace hle := Lib.hid hle
  replace h0 := Lib.hid h0
  replace h1 := Lib.hid h1
  obtain ⟨B, hB⟩ : ∃ B, w.heap.size = B := ⟨_, rfl⟩
  replace hB := Lib.hid hB
  go_enter Try.func32, Try.ntmps32
  go_wp2_with fail
  go_loopw [4, 11] (fun vl vi wr => ∃ k : Nat, vi = .int .i64 k ∧ k ≤ 5 ∧ vl = .int .i64 (1024 - MemF.sumN ns k) ∧ wr = w.alloc (.cells #[.int .i64 (ns 0), .int .i64 (ns 1), .int .i64 (ns 2), .int .i64 (ns 3), .int .i64 (ns 4)] 22)) (fun _ v _ => 5 - (intOf v).toNat)
  case atStart => exact ⟨0, rfl, by omega, rfl, rfl⟩
  case round =>
    obtain ⟨k, rfl, hk, rfl, rfl⟩ := hrel
    by_cases hlt : k < 5
    · have e1 := hle.out k hk
      have e2 := hle.out (k + 1) (by omega)
      have e3 := hsum.out k
      obtain ⟨y, hy⟩ : ∃ y, MemF.sumN ns k = y := ⟨_, rfl⟩
      obtain ⟨z, hz⟩ : ∃ z, ns k = z := ⟨_, rfl⟩
      rw [hy] at e1 e3 ⊢
      rw [hz] at e3
      rw [e3] at e2
      have e4 : (z : Int) ≤ 1024 - (y : Int) := by omega
      have e5 : (0 : Int) ≤ z := by omega
      have e6 : (0 : Int) ≤ y := by omega
      have e7 : (y : Int) ≤ 1024 := by omega
      replace e3 := Lib.hid e3
      replace hy := Lib.hid hy
      have hltI : (k : Int) < 5 := by omega
      go_wp2_with (refine wpl_index _ (.tmp 10) (.tmp 11) 22 rfl rfl _ _ rfl rfl (.int .i64 z) (by rw [← hz]; exact idxN ns k hlt _) ?_)
      go_roundw
      case rel => exact ⟨k + 1, by simp, by omega, by rw [e3.out]; congr 1; omega, trivial⟩
      case measure => simp [intOf]; omega
    · have hk5 : ¬ (k : Int) < 5 := by omega
      go_wp2_with fail
      obtain ⟨a, ha⟩ : ∃ a, w.heap.size + 1 = a := ⟨_, rfl⟩
      rw [ha]
      have hstart : ArenaB w ((w.alloc (.cells #[.int .i64 (ns 0), .int .i64 (ns 1), .int .i64 (ns 2), .int .i64 (ns 3), .int .i64 (ns 4)] 22)).alloc (.cells #[.slice none 0 0, .pointer none, .pointer none, .pointer none, .pointer none, .pointer none] 116)) B a 0 (MemF.Ar.upto ns 0) none 0 [] (fun _ => 0) (fun _ => []) := by
        have hB := hB.out
        refine ⟨?_, World.ownsRow_nil _ _ _ _, rfl, fun i hi => by simp [MemF.Ar.upto, MemF.Ar.start] at hi, fun v hv => by simp at hv, fun c hc => by omega, by simp [Value.ownBlock], fun c hc => by omega, fun c d k hc => by omega, by omega, ?_⟩
        · have h5 := Blk.new (w.alloc (.cells #[.int .i64 (ns 0), .int .i64 (ns 1), .int .i64 (ns 2), .int .i64 (ns 3), .int .i64 (ns 4)] 22)) [.slice none 0 0, .pointer none, .pointer none, .pointer none, .pointer none, .pointer none] 116
          have h6 : (w.alloc (.cells #[.int .i64 (ns 0), .int .i64 (ns 1), .int .i64 (ns 2), .int .i64 (ns 3), .int .i64 (ns 4)] 22)).heap.size = a := by rw [← ha]; simp
          rw [h6] at h5
          exact h5
        · rw [← hB]
          exact ((Below.refl _ w).alloc (Nat.le_refl _) _).alloc (by simp) _
      replace hstart := Lib.hid hstart
      have haB : B ≤ a := by have := hB.out; omega
      replace ha := Lib.hid ha
      go_loopw [28] (fun vi wr => ∃ (m : Nat) (p : Option Addr) (cap : Nat) (vs : List Value) (bs : Nat → Nat) (Fs : Nat → List Nat), vi = .int .i64 m ∧ m ≤ 5 ∧ Hid (ArenaB w wr B a m (MemF.Ar.upto ns m) p cap vs bs Fs)) (fun v _ => 5 - (intOf v).toNat)
      case atStart => exact ⟨0, none, 0, [], _, _, rfl, by omega, hstart⟩
      case round =>
        clear hstart
        obtain ⟨m, p, cap, vs, bs, Fs, rfl, hm, hAB⟩ := hrel
        by_cases hlt : m < 5
        · have hltI : (m : Int) < 5 := by omega
          have hMk := Lib.hid (MemF.ArMk.upto ns m hm)
          go_wp2_with (refine wpl_index _ (.tmp 27) (.tmp 28) 22 rfl rfl _ _ rfl rfl (.int .i64 (ns m)) (idxN ns m hlt _) ?_)
          refine undraw ?hB ?_
          case hB => kernel_rfl
          intro K hK
          simp only [Undraw.withAsks, Undraw.asksOf, Undraw.intsOf, Undraw.strsOf, List.contains, List.elem, Nat.reduceBEq, if_true, List.map_nil, List.map_cons, List.nil_append, List.append_nil, List.cons_append]
          go_wp2_with fail
          refine (pool_new 1024 _ (by omega) (by omega)).mono ?_
          rintro e w1 ⟨b, F, rfl, hP, hF, hB1⟩
          have hAB1 := hAB.out.grew (w' := w1) (by exact (below_dN wr 1).trans (hB1.mono (Nat.le_refl _)))
          have hc1 : w1.cell? ⟨a, 1 + m, none⟩ = some (.pointer none) := by
            rw [hAB1.blk.cell]
            clear hAB1 hP hMk hAB hltI
            match m, hlt with
            | 0, _ | 1, _ | 2, _ | 3, _ | 4, _ => simp [ptrC]
          have hf1 := hAB1.blk.frozen
          have hMkf := hMk.out.none
          have hAB2 := ArenaB.pool (w := wr.drew) (w1 := w1) (hAB.out.grew (w' := wr.drew) (below_dN wr 1)) hlt hB1 b F hP hF (by
            rcases Nat.lt_or_ge m 5 with _ | _
            · exact (MemF.ArMk.upto0 ns m hlt)
            · omega)
          obtain ⟨bs1, hbs1⟩ : ∃ f, (fun c => if c = m then b else bs c) = f := ⟨_, rfl⟩
          obtain ⟨Fs1, hFs1⟩ : ∃ f, (fun c => if c = m then F else Fs c) = f := ⟨_, rfl⟩
          rw [hbs1, hFs1] at hAB2
          have hbm : bs1 m = b := by rw [← hbs1]; simp
          clear hbs1 hFs1 hMkf
          replace hAB1 := Lib.hid hAB1
          replace hAB2 := Lib.hid hAB2
          replace hbm := Lib.hid hbm
          replace hP := Lib.hid hP
          replace hF := Lib.hid hF
          replace hB1 := Lib.hid hB1
          go_wp2_with fail
          obtain ⟨N0, hN0⟩ : ∃ N0, MemF.sumN ns m = N0 := ⟨_, rfl⟩
          have hNs : N0 + ns m ≤ 1024 := by rw [← hN0, ← hsum.out]; exact hle.out (m + 1) (by omega)
          replace hN0 := Lib.hid hN0
          go_loopw [42] (fun vj wr => ∃ (j : Nat) (p : Option Addr) (cap : Nat) (vs : List Value) (Fs : Nat → List Nat), vj = .int .i64 j ∧ j ≤ ns m ∧ Hid (ArenaB w wr B a (m + 1) (MemF.Ar.addN m j (MemF.Ar.upto ns m)) p cap vs bs1 Fs)) (fun v _ => ns m - (intOf v).toNat)
          case atStart => exact ⟨0, _, _, _, _, rfl, by omega, hAB2⟩
          case round =>
            clear hAB hAB1 hAB2 hc1 hf1 hP hF hB1
            obtain ⟨j, p, cap, vs, Fs, rfl, hj, hAB⟩ := hrel
            by_cases hjn : j < ns m
            · have hjI : (j : Int) < (ns m : Int) := by omega
              have hMk2 := MemF.ArMk.addN hMk.out hlt j
              have hlen : (MemF.Ar.addN m j (MemF.Ar.upto ns m)).slots.length = N0 + j := by rw [MemF.addN_len, MemF.upto_len, hN0.out]
              have hAS : MemF.Ar.addN m (j + 1) (MemF.Ar.upto ns m) = (MemF.Ar.addN m j (MemF.Ar.upto ns m)).addSlot m := rfl
              generalize MemF.Ar.addN m j (MemF.Ar.upto ns m) = A at *
              have hni : (A.slots.length : Int) ∉ A.free[m]! := fun hh => by have := (hMk2.free m hlt _ hh).2.1; omega
              have hfl : (A.free[m]!).length ≤ 1024 := by
                have := MemF.sorted_len _ 0 A.slots.length (hMk2.rises m hlt) (fun x hx => ⟨(hMk2.free m hlt x hx).1, (hMk2.free m hlt x hx).2.1⟩) (by omega)
                omega
              have hABd := hAB.out.grew (w' := wr.drew) (below_dN wr 1)
              have hcp : wr.cell? ⟨a, 1 + m, none⟩ = some (.pointer (some ⟨b, 0, none⟩)) := by
                rw [hAB.out.blk.cell, ← hbm.out]
                clear hABd hfl hni hAS hlen hMk2 hjI hAB hMk hltI hbm hNs hN0
                match m, hlt with
                | 0, _ | 1, _ | 2, _ | 3, _ | 4, _ => simp [ptrC]
              have hc0 : wr.cell? ⟨a, 0, none⟩ = some (.slice p A.slots.length cap) := by rw [hAB.out.blk.cell]; rfl
              have hput := pool_put _ _ _ _ (A.slots.length : Int) wr.drew (hABd.pools m (by omega)).1 (by omega) (by omega) hni (by omega)
              rw [hbm.out] at hput
              replace hfl := Lib.hid hfl
              replace hni := Lib.hid hni
              replace hlen := Lib.hid hlen
              replace hAS := Lib.hid hAS
              replace hABd := Lib.hid hABd
              replace hMk2 := Lib.hid hMk2
              go_wp2_with fail
              refine undraw ?hB ?_
              case hB => kernel_rfl
              intro K hK
              simp only [Undraw.withAsks, Undraw.asksOf, Undraw.intsOf, Undraw.strsOf, List.contains, List.elem, Nat.reduceBEq, if_true, List.map_nil, List.map_cons, List.nil_append, List.append_nil, List.cons_append]
              go_wp2_with fail
              refine hput.mono ?_
              rintro e w2 ⟨rfl, F', hP2, hF2, hu2⟩
              clear hput
              have hAB3 := hABd.out.put m (by omega) hMk2.out.five (by omega) _ F' hu2 (by rw [hbm.out]; exact hP2) hF2
              have hc2 : w2.cell? ⟨a, 0, none⟩ = some (.slice p A.slots.length cap) := by rw [hAB3.blk.cell]; rfl
              have hpo := poison_calls m w2.drew
              have hpl := size_poison m
              have hsz8 := size_pos (m : Int) (by omega) (by omega)
              have hszl := size_le (m : Int)
              obtain ⟨sz, hsz⟩ : ∃ sz, MemF.size (m : Int) = sz := ⟨_, rfl⟩
              rw [hsz] at hpo hpl hsz8 hszl
              replace hpl := Lib.hid hpl
              replace hsz := Lib.hid hsz
              replace hAB3 := Lib.hid hAB3
              replace hP2 := Lib.hid hP2
              replace hu2 := Lib.hid hu2
              replace hF2 := Lib.hid hF2
              clear hcp hc0 hABd
              go_wp2_with fail
              have hws2 := hAB3.out.blk.lt
              have hlenI : (A.slots.length : Int) ≤ 1024 := by have := hlen.out; omega
              have hlen2 := Lib.hid hlen.out
              go_region_law (first
                | (refine step_appendk _ (.tmp 60) (.tmp 65) 112 121 rfl rfl 4 48 Try.underlying112 info_slot (by decide) (by decide) p A.slots.length cap _ B w3.heap.size [.int .i64 m, .int .i64 1, .bool false, .slice (some ⟨g, 0, none⟩) sz sz] (by rfl) (by rfl) rfl hown.out hbase.out hblkc.out hone.out (by omega) ?_
                   intro g4 cap4 w4 hown4 hupd4 hg4
                   have hAB6 := ArenaB.app hAB5.out (s := MemF.fresh m) (v := .slice (some ⟨g, 0, none⟩) sz sz) g4 cap4 hown4 hupd4 hg4 hvw.out hvo.out
                   have hc4 : w4.cell? ⟨a, 0, none⟩ = some (.slice p A.slots.length cap) := by
                     rw [(hupd4.blk (fun e => hAB5.out.ne e.symm) hAB5.out.blk).cell]; rfl
                   have hf4 : w4.frozen? ⟨a, 0, none⟩ = false := (hupd4.blk (fun e => hAB5.out.ne e.symm) hAB5.out.blk).frozen 0
                   replace hAB6 := Lib.hid hAB6
                   replace hown4 := Lib.hid hown4
                   replace hupd4 := Lib.hid hupd4
                   replace hg4 := Lib.hid hg4)
                | (go_simp; go_at_call 64; refine hpo.mono ?_
                   rintro e w3 ⟨g, rfl, hg3, hb3, hB3⟩
                   have hAB4 := (hAB3.out.grew (w' := w2.drew) (below_dN w2 1)).grew hB3
                   have hAB5 := hAB4.grew (w' := w3.alloc (.cells #[.int .i64 m, .int .i64 1, .bool false, .slice (some ⟨g, 0, none⟩) sz sz] 121)) ((Below.refl _ w3).alloc (Nat.le_refl _) _)
                   have hc3 : w3.cell? ⟨a, 0, none⟩ = some (.slice p A.slots.length cap) := by rw [hAB4.blk.cell]; rfl
                   have hc3b : (w3.alloc (.cells #[.int .i64 m, .int .i64 1, .bool false, .slice (some ⟨g, 0, none⟩) sz sz] 121)).cell? ⟨a, 0, none⟩ = some (.slice p A.slots.length cap) := by rw [hAB5.blk.cell]; rfl
                   have hown := hAB5.own
                   have hbase : B ≤ (w3.alloc (.cells #[.int .i64 m, .int .i64 1, .bool false, .slice (some ⟨g, 0, none⟩) sz sz] 121)).heap.size := by
                     have := hAB5.blk.lt; have := hAB5.aB; omega
                   have hblkc : ∀ j u, [Value.int .i64 m, .int .i64 1, .bool false, .slice (some ⟨g, 0, none⟩) sz sz][j]? = some u → (w3.alloc (.cells #[.int .i64 m, .int .i64 1, .bool false, .slice (some ⟨g, 0, none⟩) sz sz] 121)).cell? ⟨w3.heap.size, j, none⟩ = some u := by
                     intro j u hj
                     have h5 : Blk (w3.alloc (.cells #[.int .i64 m, .int .i64 1, .bool false, .slice (some ⟨g, 0, none⟩) sz sz] 121)) w3.heap.size [.int .i64 m, .int .i64 1, .bool false, .slice (some ⟨g, 0, none⟩) sz sz] 121 := Blk.new _ _ _
                     rw [h5.cell]; exact hj
                   have hone : ∀ u ∈ [Value.int .i64 m, .int .i64 1, .bool false, .slice (some ⟨g, 0, none⟩) sz sz], u.oneCell' = true := by
                     intro u hu; simp at hu; rcases hu with rfl | rfl | rfl | rfl <;> rfl
                   have hvw : CellsR (w3.alloc (.cells #[.int .i64 m, .int .i64 1, .bool false, .slice (some ⟨g, 0, none⟩) sz sz] 121)) (.slice (some ⟨g, 0, none⟩) sz sz) (MemF.fresh m).words.length (u64s (MemF.fresh m).words) ∧ 0 < (MemF.fresh m).words.length := by
                     have h6 : (MemF.fresh m).words.length = sz := hpl.out
                     rw [h6]
                     refine ⟨?_, by omega⟩
                     have h4 : Blk w3 g (u64s (MemF.poison m) ++ []) 36 := by rw [List.append_nil]; exact hb3
                     exact (CellsR.blk h4 (by omega) (Nat.le_refl _) (fun h0 => by omega)).grew ((Below.refl _ w3).alloc (Nat.le_refl _) _)
                   have hvo : ∀ k, (Value.slice (some ⟨g, 0, none⟩) sz sz).ownBlock = some k → k ≠ a ∧ (Value.slice p A.slots.length cap).ownBlock ≠ some k ∧ (∀ c, c < m + 1 → k ∉ (if c = m then F' else Fs c)) ∧ k < (w3.alloc (.cells #[.int .i64 m, .int .i64 1, .bool false, .slice (some ⟨g, 0, none⟩) sz sz] 121)).heap.size ∧ B ≤ k := by
                     intro k hk
                     have hkg : k = g := by simpa [Value.ownBlock] using hk.symm
                     subst hkg
                     have hgg : w2.heap.size ≤ k := hg3
                     have hlt3 := hb3.lt
                     refine ⟨by omega, fun e => ?_, fun c hc hk2 => ?_, by simp; omega, ?_⟩
                     · have := own_lt hAB3.out.own e; omega
                     · have := (hAB3.out.pools c hc).1.lt k hk2; omega
                     · have := hAB3.out.aB; omega
                   replace hAB4 := Lib.hid hAB4
                   replace hAB5 := Lib.hid hAB5
                   replace hown := Lib.hid hown
                   replace hbase := Lib.hid hbase
                   replace hblkc := Lib.hid hblkc
                   replace hone := Lib.hid hone
                   replace hvw := Lib.hid hvw
                   replace hvo := Lib.hid hvo
                   replace hb3 := Lib.hid hb3
                   replace hB3 := Lib.hid hB3
                   replace hg3 := Lib.hid hg3))
              all_goals
                go_wp2_with fail
                go_roundw
                case rel => exact ⟨j + 1, _, _, _, _, by simp, by omega, by rw [hAS.out]; exact hAB6⟩
                case measure => simp [intOf]; omega
            · have : j = ns m := by omega
              subst this
              go_wp2_with fail
              go_roundw
              case rel => exact ⟨m + 1, p, cap, vs, bs1, Fs, by simp, by omega, hAB⟩
              case measure => simp [intOf]; omega
        · have : m = 5 := by omega
          subst this
          go_wp2_with fail
          go_ret2
          obtain ⟨X, hX, hF⟩ := hAB.out.done (by rw [MemF.upto_len]; exact h0.out)
          have hB := hB.out
          refine ⟨a, X, rfl, hX, by rw [hB]; exact hF, by rw [hB]; exact hAB.out.below⟩
end Go.Proofs.Ytpobpijjpbggoaa
