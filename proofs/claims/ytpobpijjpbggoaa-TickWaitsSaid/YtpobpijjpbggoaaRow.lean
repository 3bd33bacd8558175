/- Slices that read as cells; copy, make, slices.Clone and slices.Repeat at []uint64. -/
import Derived.Test.YtpobpijjpbggoaaBase
import Derived.Test.YtpobpijjpbggoaaWord
import Derived.Laws.CopyOwn
import Derived.OwnWalk
set_option linter.unusedSimpArgs false
set_option linter.unusedVariables false
namespace Go.Ten
open Go Go.RowKit

/-- A slice of n elements reads as these cells. -/
def CellsR (w : World) (v : Value) (n : Nat) (cs : List Value) : Prop := ∃ p c, v = .slice p n c ∧ n ≤ c ∧ n ≤ 4294967296 ∧ (n = 0 → cs = []) ∧ (∀ a, p = some a → 0 < n → a = ⟨a.block, a.off, none⟩) ∧
  ∀ j u, cs[j]? = some u → ∃ b o, p = some ⟨b, o, none⟩ ∧ w.cell? ⟨b, o + j, none⟩ = some u
theorem CellsR.upd {S : Nat → Prop} {w w' : World} {v : Value} {n : Nat} {cs : List Value} (h : CellsR w v n cs) (hu : Upd S w w') (hs : ∀ k, k < w.heap.size → v.ownBlock = some k → ¬ S k) : CellsR w' v n cs := by
  obtain ⟨p, c, rfl, h1, h2, h3, h4, h5⟩ := h
  refine ⟨p, c, rfl, h1, h2, h3, h4, fun j u hj => ?_⟩
  obtain ⟨b, o, rfl, hc⟩ := h5 j u hj
  exact ⟨b, o, rfl, hu.cell (hs b (cell_lt hc) rfl) hc⟩
theorem CellsR.grew {w w' : World} {v : Value} {n : Nat} {cs : List Value} (h : CellsR w v n cs) (hb : Below w.heap.size w w') : CellsR w' v n cs :=
  h.upd (S := fun _ => False) ⟨hb.os, hb.tape, hb.output, hb.size, fun k hk _ => hb.block k hk⟩ fun _ _ _ h => h
theorem CellsR.lt {w : World} {v : Value} {n : Nat} {cs : List Value} (h : CellsR w v n cs) (hne : cs ≠ []) : ∃ k, v.ownBlock = some k ∧ k < w.heap.size := by
  obtain ⟨p, c, rfl, h1, h2, h3, h4, h5⟩ := h
  obtain ⟨x, cs, rfl⟩ := List.exists_cons_of_ne_nil hne
  obtain ⟨b, o, rfl, hc⟩ := h5 0 x rfl
  exact ⟨b, rfl, cell_lt hc⟩
theorem CellsR.nil (w : World) : CellsR w (.slice none 0 0) 0 [] := ⟨none, 0, rfl, Nat.le_refl _, by omega, fun _ => rfl, fun a e _ => (by cases e), fun j u h => (by simp at h)⟩
theorem CellsR.of_owns {w : World} {base : Nat} {e : TypeId} {size n : Nat} {p : Option Addr} {c : Nat} {xs : List Value} (h : w.ownsRow base e size (.slice p n c) n xs) (hn : n ≤ 4294967296) : CellsR w (.slice p n c) n xs := by
  obtain ⟨p', c', hv, hp0, hp1⟩ := own_form h
  simp only [Value.slice.injEq] at hv
  obtain ⟨rfl, -, rfl⟩ := hv
  obtain ⟨h1, h2 | ⟨g', cap, cur, hv, h3, h4, h5, h6, h7, h8⟩⟩ := h
  · have hn0 : n = 0 := by
      have h3 := h2.1
      simp only [Value.slice.injEq] at h3
      exact h3.2.1
    subst hn0
    have : xs = [] := by simpa using h1
    subst this
    exact ⟨p, c, rfl, by omega, hn, fun _ => rfl, fun a ha h0 => by omega, fun j u hj => by simp at hj⟩
  · simp only [Value.slice.injEq] at hv
    obtain ⟨rfl, -, rfl⟩ := hv
    refine ⟨some ⟨g', 0, none⟩, c, rfl, h5, hn, fun h0 => ?_, fun a ha _ => by cases ha; rfl, fun j u hj => ⟨g', 0, rfl, ?_⟩⟩
    · subst h0; have : xs.length = 0 := by simpa using h1
      simpa using this
    · have hjx := (List.getElem?_eq_some_iff.1 hj).1
      rw [← h8, List.getElem?_take_of_lt (by omega)] at hj
      simp only [World.cell?, h4]
      simpa using hj
theorem CellsR.blk {w : World} {g : Nat} {cs rest : List Value} {T : TypeId} (h : Blk w g (cs ++ rest) T) {n c : Nat} (hn : n ≤ 4294967296) (hc : n ≤ c) (h0 : n = 0 → cs = []) : CellsR w (.slice (some ⟨g, 0, none⟩) n c) n cs := by
  refine ⟨some ⟨g, 0, none⟩, c, rfl, hc, hn, h0, fun a ha _ => by cases ha; rfl, fun j u hj => ⟨g, 0, rfl, ?_⟩⟩
  have hjx := (List.getElem?_eq_some_iff.1 hj).1
  rw [Nat.zero_add, h.cell, List.getElem?_append_left hjx]
  exact hj

abbrev u64s (ws : List Int) : List Value := ws.map (Value.int .u64)
theorem u64s_one (ws : List Int) : ∀ v ∈ u64s ws, v.oneCell' = true := by
  intro v hv; obtain ⟨x, _, rfl⟩ := List.mem_map.1 hv; rfl

/-- copy of one-cell elements. -/
theorem wpl_copy {P : Program} (w : World) {ops : Array Oper} {rest : List Oper} {o : Oper} {a : Act} {Q : Exit → Act → World → Prop} (d s : Operand) (dT : TypeId) (hgd : o.guard = none)
    (ho : o.op = .call { callee := .builtin .copy, args := #[d, s], argTypes := #[dT, dT] }) (elem : TypeId) (hu : P.underlying dT = some (.slice elem)) (hsz : (P.info? elem).map (·.size) = some 1)
    (g off dl dc : Nat) (hd : a.eval d = .slice (some ⟨g, off, none⟩) dl dc) (v : Value) (hs : a.eval s = v) (n : Nat) (cs : List Value) (hsrc : CellsR w v n cs) (hl : cs.length = n)
    (cur : List Value) (t : TypeId) (hg : Blk w g cur t) (m : Nat) (hm : m = min n dl) (hfit : off + m ≤ cur.length) (h1 : ∀ v ∈ cs, v.oneCell' = true)
    (h : ∀ w', Blk w' g (cur.take off ++ (cs.take m ++ cur.drop (off + m))) t → Upd (fun k => k = g) w w' → w'.heap.size = w.heap.size → wpList P ops Q rest (a.put o.dst (.int .i64 m)) w') :
    wpList P ops Q (o :: rest) a w := by
  obtain ⟨p, c, rfl, h2, h3, h4, h5, h6⟩ := hsrc
  by_cases h0 : m = 0
  · subst h0
    refine wpList_copy_nothing hgd d s dT dT ho elem hu hsz _ p dl dc n c hd hs (by rw [show Nat.min n dl = min n dl from rfl]; omega) ?_
    refine h w ?_ (Upd.refl _ _) rfl
    simpa using hg
  · have hx : ∃ b so, p = some ⟨b, so, none⟩ ∧ ∀ j u, cs[j]? = some u → w.cell? ⟨b, so + j, none⟩ = some u := by
      cases hcs : cs[0]? with
      | none => simp at hcs; subst hcs; simp at hl; omega
      | some u0 =>
        obtain ⟨b, so, rfl, _⟩ := h6 0 u0 hcs
        refine ⟨b, so, rfl, fun j u hj => ?_⟩
        obtain ⟨b', o', e, hc⟩ := h6 j u hj
        cases e
        exact hc
    obtain ⟨b, so, rfl, hcell⟩ := hx
    have hlen : (cs.take m).length = m := by simp; omega
    refine wpList_copy_own hgd d s dT dT ho elem hu hsz g off dl dc ⟨b, so, none⟩ n c hd hs cur.toArray t hg (cs.take m) (by rw [hlen]; exact hm) ?_ (by rw [hlen]; simpa using hfit) (fun v hv => h1 v (List.mem_of_mem_take hv)) ?_
    · intro j u hj
      have hjm : j < m := by have := (List.getElem?_eq_some_iff.1 hj).1; omega
      rw [List.getElem?_take_of_lt hjm] at hj
      rw [Addr.add_lit]
      exact hcell j u hj
    · rw [hlen]
      refine h _ ?_ ?_ (by simp [World.setRow])
      · exact setRow_heap w g _ _ t _ hg
      · exact ⟨rfl, rfl, rfl, by simp [World.setRow], fun k hk hn => setRow_other w g k _ (fun e => hn (by omega))⟩

theorem madeCells_rep (z : Value) (hz : z.cells = #[z]) (n : Nat) : madeCells z.cells n = (List.replicate n z).toArray := by
  apply Array.ext
  · simp [madeCells]
  · intro i h1 h2
    simp [madeCells, hz, Nat.mod_one]
end Go.Ten

namespace Go.Proofs.Ytpobpijjpbggoaa
open Go.RowKit Go.Ten
theorem info_u64 : (Try.prog.info? 36).map (fun i => (i.zero, i.size, i.bytes)) = some (some (.int .u64 0), 1, 8) := by kernel_rfl
theorem info_u64s : (Try.prog.info? 36).map (·.size) = some 1 := by kernel_rfl
theorem make_u64 (n : Nat) (hn : n ≤ 4294967296) (w : World) : (Instr.makeSlice 37 (.int .i64 n) (.int .i64 n)).run Try.prog w = .ok (.slice (some ⟨w.heap.size, 0, none⟩) n n) (w.alloc (.cells (List.replicate n (.int .u64 0)).toArray 36)) := by
  obtain ⟨i, hi, hz, hs, hb⟩ := info_parts info_u64
  have h := run_make (P := Try.prog) w 37 36 i _ Try.underlying37 hi hz .i64 .i64 (n : Int) (n : Int) (by omega) (Int.le_refl _) (by rw [hb]; omega) (by omega)
  rw [h, hs, Nat.mul_one, Int.toNat_natCast, madeCells_rep _ rfl]

set_option maxRecDepth 100000 in
set_option maxHeartbeats 1000000 in
/-- slices.Clone at []uint64, not nil. -/
theorem clone_u64_calls (v : Value) (n : Nat) (ws : List Int) (w : World) (h : CellsR w v n (u64s ws)) (hl : ws.length = n) (h0 : 0 < n) :
    Calls Try.prog 102 #[v] w fun e w' => ∃ g c, e = .returned (.slice (some ⟨g, 0, none⟩) n c) ∧ w.heap.size ≤ g ∧ w'.ownsRow w.heap.size 36 1 (.slice (some ⟨g, 0, none⟩) n c) n (u64s ws) ∧ Below w.heap.size w w' := by
  obtain ⟨p, c, rfl, h1, h2, h3, h4, h5⟩ := h
  have hx : ∃ b so, p = some ⟨b, so, none⟩ ∧ ∀ j u, (u64s ws)[j]? = some u → w.cell? ⟨b, so + j, none⟩ = some u := by
    cases hcs : (u64s ws)[0]? with
    | none => simp at hcs; subst hcs; simp at hl; omega
    | some u0 =>
      obtain ⟨b, so, rfl, _⟩ := h5 0 u0 hcs
      refine ⟨b, so, rfl, fun j u hj => ?_⟩
      obtain ⟨b', o', e, hc⟩ := h5 j u hj
      cases e
      exact hc
  obtain ⟨b, so, rfl, hcell⟩ := hx
  clear h3 h4 h5
  obtain ⟨i0, hi, hz0, hz1, hz2⟩ := info_parts info_u64
  have A := Lib.hid hcell
  clear hcell
  have hl' := Lib.hid hl
  clear hl
  have q : ∀ (w : World) (a : Option Addr) (n c n' c' : Nat), (binOp .eql 37 (.slice a n c) (.slice none n' c')).run Try.prog w = .ok (.bool a.isNone) w := fun w a n c n' c' => Lib.run_eql_slice_nil w _ _ a n c n' c' Try.underlying37
  go_enter Try.func102, Try.ntmps102
  go_wp2_with (at_builtin; refine wpList_append_own _ rfl _ _ 37 rfl w.heap.size 36 i0 (.int .u64 0) 1 8 Try.underlying37 hi hz0 hz1 hz2 rfl (by decide) _ _ _ rfl (World.ownsRow_made w #[] 0 (Nat.le_refl _) (Nat.zero_le _) rfl) ⟨b, so, none⟩ n c (u64s ws) rfl ?qc1 ?qc2 ?qc3 ?qc4 ?qc5 ?qc6 ?_)
  case qc1 => have := hl'.out; simp; omega
  case qc2 =>
    intro j u hj
    rw [Addr.add_lit]
    exact Lib.cell?_alloc_some _ (A.out j u hj)
  case qc3 => exact u64s_one ws
  case qc4 => unfold maxLen; omega
  case qc5 => omega
  case qc6 => simp
  intro v' w1 hown hgrow hnil
  go_wp2
  go_ret
  have hB : Below w.heap.size w w1 := ((Below.refl _ w).alloc (Nat.le_refl _) _).grown hgrow (by simp) (by intro k hk; simp [Value.ownBlock] at hk; omega)
  have hown : w1.ownsRow w.heap.size 36 1 v' n (u64s ws) := by simpa using hown
  obtain ⟨p', c', rfl, hp0, hp1⟩ := own_form hown
  rcases p' with _ | a
  · have := hp0 rfl; omega
  · have e := hp1 a rfl
    rw [e] at hown ⊢
    refine ⟨_, c', rfl, ?_, hown, hB⟩
    exact own_ge hown rfl

set_option maxRecDepth 100000 in
set_option maxHeartbeats 1000000 in
theorem mul64_one (n : Nat) (hn : n ≤ 4096) (w : World) : Calls Try.prog 127 #[.int .u64 1, .int .u64 n] w fun e w' => e = .returned (.tuple #[.int .u64 0, .int .u64 n]) ∧ w = w' := by
  have h1 : bits .and .u64 (n : Int) 4294967295 = n := by
    have := bits_mask .u64 64 (by decide) (fun m h0 h1 => by rw [IntKind.wrap_u64]; omega) 32 (by decide) (n : Int) (by omega) (by omega)
    have h2 : (2 : Int) ^ 32 - 1 = 4294967295 := by decide
    rw [h2] at this
    rw [this]; omega
  have h2 : (n : Int) / 4294967296 = 0 := by omega
  have h3 : bits .and .u64 1 4294967295 = 1 := by decide
  have h5 : bits .and .u64 0 4294967295 = 0 := by decide
  have hn0 : (0 : Int) ≤ n := by omega
  have hn1 : (n : Int) ≤ 4096 := by omega
  go_enter Try.func127, Try.ntmps127
  go_wp2
  go_ret2
  exact ⟨rfl, rfl⟩
set_option maxRecDepth 100000 in
set_option maxHeartbeats 1000000 in
theorem mul_one_calls (n : Nat) (hn : n ≤ 4096) (w : World) : Calls Try.prog 112 #[.int .u64 1, .int .u64 n] w fun e w' => e = .returned (.tuple #[.int .u64 0, .int .u64 n]) ∧ w = w' := by
  have hm := mul64_one n hn w
  go_enter Try.func112, Try.ntmps112
  go_wp2_with fail
  refine hm.mono ?_
  rintro e w' ⟨rfl, rfl⟩
  go_wp2_with fail
  go_ret2
  exact ⟨rfl, rfl⟩

theorem take_rep (x : Value) (n m : Nat) (h : m ≤ n) : (List.replicate n x).take m = List.replicate m x := by simp; omega
set_option maxRecDepth 100000 in
set_option maxHeartbeats 1000000 in
/-- slices.Repeat of one word. -/
theorem repeat_u64_calls (B c1 : Nat) (x : Int) (n : Nat) (w : World) (h : w.cell? ⟨B, 0, none⟩ = some (.int .u64 x)) (hc1 : 1 ≤ c1) (hn : n ≤ 4096) :
    Calls Try.prog 93 #[.slice (some ⟨B, 0, none⟩) 1 c1, .int .i64 n] w fun e w' => ∃ g, e = .returned (.slice (some ⟨g, 0, none⟩) n n) ∧ w.heap.size ≤ g ∧ Blk w' g (List.replicate n (.int .u64 x)) 36 ∧ Below w.heap.size w w' := by
  have hmul := mul_one_calls n hn
  have hmk := make_u64 n (by omega)
  have hBlt := cell_lt h
  have hn0 : (0 : Int) ≤ n := by omega
  have hni : (n : Int) ≤ 4096 := by omega
  go_enter Try.func93, Try.ntmps93
  go_wp2_with fail
  refine (calls_at (hmul w) (by simp)).mono ?_
  rintro e w1 ⟨rfl, rfl⟩
  have hsrc : CellsR (w.alloc (.cells (List.replicate n (.int .u64 0)).toArray 36)) (.slice (some ⟨B, 0, none⟩) 1 c1) 1 [.int .u64 x] := by
    refine ⟨_, c1, rfl, hc1, by omega, by simp, fun a ha _ => by cases ha; rfl, fun j u hj => ⟨B, 0, rfl, ?_⟩⟩
    match j, hj with
    | 0, hj => simp at hj; subst hj; exact Lib.cell?_alloc_some _ (by simpa using h)
  go_wp2_with (refine wpl_copy _ (.tmp 31) (.tmp 32) 37 rfl rfl 36 Try.underlying37 info_u64s w.heap.size 0 n n rfl _ rfl 1 _ hsrc rfl (List.replicate n (.int .u64 0)) 36 (Blk.new _ _ _) (min 1 n) rfl ?h1 ?h2 ?_)
  try (case h1 => (simp; omega))
  try (case h2 => (intro v hv; simp at hv; subst hv; rfl))
  intro w2 hblk hupd hsz
  have hB2 : Below w.heap.size w w2 := ((Below.refl _ w).alloc (Nat.le_refl _) _).trans (hupd.below (by simp) (fun k hk e => by omega))
  obtain ⟨g, hg⟩ : ∃ g, w.heap.size = g := ⟨_, rfl⟩
  have hblk2 : Blk w2 g (List.replicate (min 1 n) (.int .u64 x) ++ List.replicate (n - min 1 n) (.int .u64 0)) 36 := by
    rw [hg] at hblk
    have e : [Value.int .u64 x].take (min 1 n) = List.replicate (min 1 n) (.int .u64 x) := by
      rcases Nat.eq_zero_or_pos n with h0 | h0
      · subst h0; rfl
      · have : min 1 n = 1 := by omega
        rw [this]; rfl
    simpa [e] using hblk
  clear hblk hupd hsz hsrc hmul
  rw [hg] at hB2 ⊢
  replace hB2 := Lib.hid hB2
  replace hblk2 := Lib.hid hblk2
  replace hg := Lib.hid hg
  clear hmk
  go_wp2_with fail
  go_loopw [8] (fun vk wr => ∃ k : Nat, vk = .int .i64 k ∧ k ≤ n ∧ (k = 0 → n = 0) ∧ Hid (Blk wr g (List.replicate k (.int .u64 x) ++ List.replicate (n - k) (.int .u64 0)) 36) ∧ Hid (Below g w wr)) (fun v _ => n - (intOf v).toNat)
  case atStart => exact ⟨min 1 n, rfl, by omega, by omega, hblk2, hB2⟩
  case round =>
    obtain ⟨k, rfl, hk, hk0, hb, hB⟩ := hrel
    by_cases hlt : k < n
    · have hltI : (k : Int) < (n : Int) := by omega
      have hne : k ≠ n := by omega
      go_wp2_with fail
      refine undraw ?hB ?_
      case hB => kernel_rfl
      intro K hK
      simp only [Undraw.withAsks, Undraw.asksOf, Undraw.intsOf, Undraw.strsOf, List.contains, List.elem, Nat.reduceBEq, if_true, List.map_nil, List.map_cons, List.nil_append, List.append_nil, List.cons_append]
      obtain ⟨m, hm⟩ : ∃ m, min k (n - k) = m := ⟨_, rfl⟩
      have hmk : m ≤ n - k := by omega
      have hm0 : 0 < m := by omega
      have hkm : (k : Int) + (m : Int) ≤ 4096 := by omega
      have hsrc2 : CellsR wr.drew (.slice (some ⟨g, 0, none⟩) k n) k (List.replicate k (.int .u64 x)) := CellsR.blk hb.out (by omega) hk (by rintro rfl; rfl)
      replace hsrc2 := Lib.hid hsrc2
      replace hm := Lib.hid hm
      go_wp2_with (refine wpl_copy _ (.tmp 41) (.tmp 44) 37 rfl rfl 36 Try.underlying37 info_u64s g k (n - k) (n - k) rfl _ rfl k _ hsrc2.out (by simp) _ 36 hb.out m hm.out.symm ?h3 ?h4 ?_)
      try (case h3 => (simp; omega))
      try (case h4 => (intro v hv; rw [List.mem_replicate] at hv; rw [hv.2]; rfl))
      intro w3 hblk3 hupd3 hsz3
      replace hblk3 := Lib.hid hblk3
      replace hupd3 := Lib.hid hupd3
      replace hsz3 := Lib.hid hsz3
      go_wp2_with fail
      go_roundw
      case rel =>
        refine ⟨k + m, by simp, by omega, by omega, ?_, ?_⟩
        · refine Lib.hid ?_
          have h5 := hblk3.out
          have e : List.replicate k (Value.int .u64 x) ++ (List.replicate (min m k) (Value.int .u64 x) ++ List.drop (k + m) (List.replicate k (Value.int .u64 x) ++ List.replicate (n - k) (.int .u64 0))) = List.replicate (k + m) (Value.int .u64 x) ++ List.replicate (n - (k + m)) (.int .u64 0) := by
            have hmk2 : min m k = m := by have := hm.out; omega
            rw [hmk2, ← List.append_assoc, List.replicate_append_replicate, List.drop_append]
            simp
            omega
          rw [e] at h5
          exact h5
        · have hu : Upd (fun k => k = g) wr w3 := ((Upd.refl (fun k => k = g) wr).drew).trans hupd3.out (fun _ _ h => h)
          have hs1 := hB.out.size
          have hs2 := (hb.out).lt
          exact Lib.hid (Below.trans hB.out (hu.below (by omega) (fun k hk e => by omega)))
      case measure => simp [intOf]; omega
    · have : k = n := by omega
      subst this
      go_wp2
      go_ret
      have hg := hg.out
      subst hg
      refine ⟨_, rfl, Nat.le_refl _, ?_, hB.out⟩
      simpa using hb.out
end Go.Proofs.Ytpobpijjpbggoaa
