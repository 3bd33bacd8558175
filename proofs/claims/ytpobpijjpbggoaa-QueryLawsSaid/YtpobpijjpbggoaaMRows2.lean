/- package merge: the heap of rows: Push, Fix and Remove of container/heap. -/
import Derived.Test.YtpobpijjpbggoaaMRows
set_option linter.unusedSimpArgs false
set_option linter.unusedVariables false
namespace Go.Proofs.Ytpobpijjpbggoaa
open Go.RowKit Go.Ten Go.Ten.Mg

/-- The heap of rows at b, its row known by its cells alone. -/
structure RowsH (w : World) (B b : Nat) (L : List (Value × List Int)) : Prop where
  ex : ∃ p c, Blk w b [.slice p L.length c] 152 ∧ w.ownsRow B 64 1 (.slice p L.length c) L.length (L.map Prod.fst) ∧ (Value.slice p L.length c).ownBlock ≠ some b ∧
    ∀ e ∈ L, IntsR w e.1 e.2 ∧ e.2 ≠ [] ∧ ∀ k, e.1.ownBlock = some k → k ≠ b ∧ some k ≠ (Value.slice p L.length c).ownBlock
  hb : B ≤ b
  len : L.length < 65536

theorem RowsAt.toH {w : World} {B b g n c : Nat} {rest : List Value} {L : List (Value × List Int)} (h : RowsAt w b g n c rest L) (hB : B ≤ b) (hg : B ≤ g) (hr : n + rest.length = c) (hm : c ≤ maxLen) (hl : n < 65536) (hn : L.length = n) : RowsH w B b L := by
  subst hn
  refine ⟨⟨some ⟨g, 0, none⟩, c, h.blk, ?_, by simpa [Value.ownBlock] using h.ne, fun e he => ?_⟩, hB, hl⟩
  · exact ⟨by simp, .inr ⟨g, c, _, rfl, hg, h.row, by omega, hm, by simp; omega, by simp⟩⟩
  · have := h.els e he
    exact ⟨this.reads, this.pos, fun k hk => by have := this.off k hk; simp [Value.ownBlock]; omega⟩

theorem RowsH.toAt {w : World} {B b : Nat} {L : List (Value × List Int)} (h : RowsH w B b L) (hL : L ≠ []) : ∃ g c rest, RowsAt w b g L.length c rest L ∧ L.length + rest.length = c ∧ c ≤ maxLen ∧ B ≤ g := by
  obtain ⟨p, c, h1, h2, h3, h4⟩ := h.ex
  obtain ⟨_, h2 | ⟨g, cap, cur, hv, hbg, hg, hn, hm, hs, ht⟩⟩ := h2
  · exact absurd (List.eq_nil_of_length_eq_zero h2.2) hL
  · simp only [Value.slice.injEq] at hv
    obtain ⟨rfl, _, rfl⟩ := hv
    refine ⟨g, c, cur.toList.drop L.length, ⟨h1, ?_, fun e he => ?_, Nat.le_refl _, by simpa [Value.ownBlock] using h3⟩, by simp; omega, hm, hbg⟩
    · unfold Blk
      rw [hg, ← ht, Nat.mul_one, List.take_append_drop]
    · obtain ⟨a1, a2, a3⟩ := h4 e he
      exact ⟨a1, a2, fun k hk => by have := a3 k hk; simp [Value.ownBlock] at this; exact this⟩

set_option maxRecDepth 100000 in
set_option maxHeartbeats 1000000 in
theorem rows_heap_push (B b : Nat) (L : List (Value × List Int)) (v : Value) (l : List Int) (w : World) (h : RowsH w B b L) (hv : IntsR w v l) (hl : l ≠ []) (hn : L.length < 65535)
    (hoff : ∀ k, v.ownBlock = some k → k ≠ b) (hoff2 : ∀ k p c, v.ownBlock = some k → Blk w b [.slice p L.length c] 152 → some k ≠ (Value.slice p L.length c).ownBlock) :
    Calls Try.prog 85 #[.iface 107 (.pointer (some ⟨b, 0, none⟩)), .iface 64 v] w fun e w' => e = .returned (.tuple #[]) ∧
      RowsH w' B b (HeapFns.up ltE (L.length + 1) (L ++ [(v, l)]) L.length) ∧ Below B w w' := by
  obtain ⟨⟨p, c, hb, ho, hne, hel⟩, hBb, hL⟩ := h
  have hBs : B ≤ w.heap.size := by have := hb.lt; omega
  have hk0 := fun k hk => hoff2 k p c hk hb
  have hv0 := hv
  obtain ⟨pv, cv, rfl, _, _⟩ := hv0
  have hm := fun m (w : World) (a : Addr) => rows_method_Push m w a
  have hcp := rowsFunc_Push
  have hcl := rowsFunc_Len
  have hblt := hb.lt
  obtain ⟨n, hnL⟩ : ∃ n, L.length = n := ⟨_, rfl⟩
  have hpush := rows_push B b p pv n c l.length cv (L.map Prod.fst) w (by rw [← hnL]; exact hb) (by rw [← hnL]; exact ho) hBs (by rw [← hnL]; exact hne) (by omega)
  have hown : ∀ k, (Value.slice p L.length c).ownBlock = some k → B ≤ k ∧ k < w.heap.size := fun k hk => ho.lt k hk
  rw [hnL] at ho hne hn hL hb ⊢
  simp only [hnL] at hel hk0 hown
  go_enter Try.func85, Try.ntmps85
  go_wp2_with fail
  refine hpush.mono ?_
  rintro e w1 ⟨rfl, g, c', hb1, ho1, hg, hu1⟩
  have hcell1 : w1.cell? ⟨b, 0, none⟩ = some (.slice (some ⟨g, 0, none⟩) (n + 1) c') := by rw [hb1.cell]; rfl
  have hm1 := fun m => rows_run m w1 ⟨b, 0, none⟩ "Len" _ (fun w => rows_method_Len m w _) _ hcell1
  have hgb : g ≠ b := by
    rcases hg with hg | hg
    · rw [hg] at hne; exact fun e => hne (by simp [Value.ownBlock, e])
    · omega
  have hgB : B ≤ g := by
    rcases hg with hg | hg
    · exact (hown g (by rw [hg]; rfl)).1
    · omega
  have hbel1 : Below B w w1 := hu1.below hBs fun k hk e => by
    rcases e with e | e
    · omega
    · have := (hown k e.symm).1; omega
  -- the elements read on
  have hrd : ∀ (u : Value) (xs : List Int), IntsR w u xs → xs ≠ [] → (∀ k, u.ownBlock = some k → k ≠ b ∧ some k ≠ (Value.slice p n c).ownBlock) → Elem w1 b g (u, xs) := by
    intro u xs hr hx hk
    refine ⟨hr.upd hu1 fun k hk1 hk2 hk3 => ?_, hx, fun k hk1 => ?_⟩
    · rcases hk3 with e | e
      · exact (hk k hk2).1 e
      · exact (hk k hk2).2 e
    · refine ⟨(hk k hk1).1, fun e => ?_⟩
      subst e
      rcases hg with hg | hg
      · exact (hk k hk1).2 (by rw [hg]; rfl)
      · obtain ⟨p', c0, e0, _, hc0⟩ := hr
        rcases xs with _ | ⟨x, t⟩
        · exact hx rfl
        · obtain ⟨blk, off, e1, h1⟩ := hc0 0 (by simp)
          have : blk = k := by rw [e0, e1] at hk1; simpa [Value.ownBlock] using hk1
          have := cell_lt h1
          simp at this
          omega
  obtain ⟨_, h2 | ⟨g', cap, cur, hvv, _, hh, hnn, hmx, hs, ht⟩⟩ := ho1
  · simp at h2
  simp only [Value.slice.injEq, Option.some.injEq, Addr.mk.injEq] at hvv
  obtain ⟨⟨rfl, _⟩, _, rfl⟩ := hvv
  have hat : RowsAt w1 b g (n + 1) c' (cur.toList.drop (n + 1)) (L ++ [(.slice pv l.length cv, l)]) := by
    refine ⟨hb1, ?_, ?_, by simp [hnL], hgb⟩
    · unfold Blk
      rw [hh]
      have : (L ++ [((.slice pv l.length cv : Value), l)]).map Prod.fst = cur.toList.take (n + 1) := by rw [Nat.mul_one] at ht; rw [ht]; simp
      rw [this, List.take_append_drop]
    · intro e he
      rcases List.mem_append.1 he with he | he
      · have := hel e he
        exact hrd e.1 e.2 this.1 this.2.1 this.2.2
      · simp at he
        subst he
        exact hrd _ _ hv hl fun k hk => ⟨hoff k hk, hk0 k hk⟩
  clear hm hpush
  go_wp2_with fail
  refine (rows_len _ _ _ _).mono ?_
  rintro e w2 ⟨rfl, rfl⟩
  go_wp2_with fail
  refine (calls_at (heap_up (rowsI w1 b g (n + 1) c' _) w1 _ n ⟨hat, Upd.refl _ _⟩ (by simp [hnL]) (by simp [hnL]; omega)) (by simp)).mono ?_
  rintro e w2 ⟨rfl, hat2, hu2⟩
  go_wp2_with fail
  go_end0
  refine ⟨rfl, ?_, hbel1.trans (hu2.below (by have := hbel1.size; omega) fun k hk e => by rcases e with e | e <;> omega)⟩
  exact hat2.toH hBb hgB (by simp; omega) hmx (by omega) (by rw [HeapFns.up_length]; simp [hnL])

set_option maxRecDepth 100000 in
set_option maxHeartbeats 1000000 in
theorem rows_heap_fix (b g n c : Nat) (rest : List Value) (L : List (Value × List Int)) (w : World) (h : RowsAt w b g n c rest L) (hlen : L.length = n) (hn0 : 0 < n) (hn : n < 65536) :
    Calls Try.prog 87 #[.iface 107 (.pointer (some ⟨b, 0, none⟩)), .int .i64 0] w fun e w' => e = .returned (.tuple #[]) ∧
      RowsAt w' b g n c rest (HeapFns.down ltE (n + 1) L 0 n).1 ∧ Upd (fun k => k = b ∨ k = g) w w' := by
  have hcell : w.cell? ⟨b, 0, none⟩ = some (.slice (some ⟨g, 0, none⟩) n c) := by rw [h.blk.cell]; rfl
  have hm := fun m => rows_run m w ⟨b, 0, none⟩ "Len" _ (fun w => rows_method_Len m w _) _ hcell
  have hcl := rowsFunc_Len
  go_enter Try.func87, Try.ntmps87
  go_wp2_with fail
  refine (rows_len _ _ _ _).mono ?_
  rintro e w1 ⟨rfl, rfl⟩
  clear hm
  go_wp2_with fail
  refine (calls_at (heap_down (rowsI w b g n c rest) w L 0 n ⟨h, Upd.refl _ _⟩ (by omega) (by omega) (by omega)) (by simp)).mono ?_
  rintro e w1 ⟨rfl, h1, hu1⟩
  by_cases hd : 0 < (HeapFns.down ltE (n + 1) L 0 n).2
  · have hd' : decide (0 < (HeapFns.down ltE (n + 1) L 0 n).2) = true := decide_eq_true hd
    rw [hd']
    go_wp2_with fail
    go_end0
    exact ⟨rfl, h1, hu1⟩
  · have hd' : decide (0 < (HeapFns.down ltE (n + 1) L 0 n).2) = false := decide_eq_false hd
    rw [hd']
    go_wp2_with fail
    have hl2 : (HeapFns.down ltE (n + 1) L 0 n).1.length = n := by rw [HeapFns.down_length]; exact hlen
    refine (calls_at (heap_up (rowsI w b g n c rest) w1 _ 0 ⟨h1, hu1⟩ (by omega) (by omega)) (by simp)).mono ?_
    rintro e w2 ⟨rfl, h2, hu2⟩
    go_wp2_with fail
    go_end0
    have e0 : HeapFns.up ltE (0 + 1) (HeapFns.down ltE (n + 1) L 0 n).1 0 = (HeapFns.down ltE (n + 1) L 0 n).1 := by rw [HeapFns.up, if_pos rfl]
    rw [e0] at h2
    exact ⟨rfl, h2, hu2⟩

def rot (t : List (Value × List Int)) : List (Value × List Int) := match t.getLast? with | some e => e :: t.dropLast | none => []

set_option maxRecDepth 100000 in
set_option maxHeartbeats 1000000 in
theorem rows_heap_remove (b g m c : Nat) (rest : List Value) (p0 : Option Addr) (n0 c0 : Nat) (t : List (Value × List Int)) (w : World)
    (hblk : Blk w b [.slice (some ⟨g, 0, none⟩) (m + 1) c] 152) (hrow : Blk w g (.slice p0 n0 c0 :: t.map Prod.fst ++ rest) 64) (hels : ∀ e ∈ t, Elem w b g e) (hlen : t.length = m) (hgb : g ≠ b) (hn : m + 1 < 65536) (hc : m + 1 ≤ c) :
    Calls Try.prog 86 #[.iface 107 (.pointer (some ⟨b, 0, none⟩)), .int .i64 0] w fun e w' => (∃ v, e = .returned v) ∧
      RowsAt w' b g m c (.slice p0 n0 c0 :: rest) (HeapFns.down ltE (m + 1) (rot t) 0 m).1 ∧ Upd (fun k => k = b ∨ k = g) w w' := by
  have hcell : w.cell? ⟨b, 0, none⟩ = some (.slice (some ⟨g, 0, none⟩) (m + 1) c) := by rw [hblk.cell]; rfl
  have hm := fun k => rows_run k w ⟨b, 0, none⟩ "Len" _ (fun w => rows_method_Len k w _) _ hcell
  have hcl := rowsFunc_Len
  have hcp := rowsFunc_Pop
  have hmp := fun k (w : World) (a : Addr) => rows_method_Pop k w a
  have hpop : ∀ (w1 : World) (L1 : List (Value × List Int)), RowsAt w1 b g (m + 1) c (.slice p0 n0 c0 :: rest) L1 → L1.length = m → Calls Try.prog 151 #[.pointer (some ⟨b, 0, none⟩)] w1 fun e w' => (∃ v, e = .returned v) ∧
      RowsAt w' b g m c (.slice p0 n0 c0 :: rest) L1 ∧ Upd (fun k => k = b) w1 w' := by
    intro w1 L1 h1 hl1
    have hx : w1.cell? ⟨g, m, none⟩ = some (.slice p0 n0 c0) := by rw [h1.row.cell, List.getElem?_append_right (by simp; omega)]; simp [hl1]
    refine (rows_pop b g m c _ _ _ w1 h1.blk hx (by omega) hc).mono ?_
    rintro e w' ⟨rfl, rfl⟩
    have hu : Upd (fun k => k = b) w1 (w1.setCell ⟨b, 0, none⟩ (.slice (some ⟨g, 0, none⟩) m c)) := (Upd.refl (fun k => k = b) w1).setCell (p := ⟨b, 0, none⟩) (.inl rfl) _
    exact ⟨⟨_, rfl⟩, ⟨h1.blk.setCell 0 _, hu.blk (fun e => h1.ne e) h1.row, fun e he => (h1.els e he).upd hu fun k _ hk => .inl hk, by omega, h1.ne⟩, hu⟩
  rcases List.eq_nil_or_concat t with rfl | ⟨t', l, rfl⟩
  · simp at hlen
    subst hlen
    have hat : RowsAt w b g 1 c (.slice p0 n0 c0 :: rest) [] := ⟨hblk, hrow, fun e he => by simp at he, by simp, hgb⟩
    have e0 : (HeapFns.down ltE (0 + 1) (rot []) 0 0).1 = [] := by simp [rot, HeapFns.down]
    rw [e0]
    go_enter Try.func86, Try.ntmps86
    go_wp2_with fail
    refine (rows_len _ _ _ _).mono ?_
    rintro e w1 ⟨rfl, rfl⟩
    clear hm
    go_wp2_with fail
    refine (hpop w [] hat rfl).mono ?_
    rintro e w2 ⟨⟨v, rfl⟩, h2, hu2⟩
    go_wp2_with fail
    go_ret
    exact ⟨⟨_, rfl⟩, h2, hu2.mono fun k _ hk => .inl hk⟩
  · simp at hlen
    have hm0 : m ≠ 0 := by omega
    have er : rot (t' ++ [l]) = l :: t' := by simp [rot]
    rw [List.concat_eq_append] at *
    rw [er]
    have hlel := hels l (by simp)
    obtain ⟨b1, o1, n1, c1, e1, _, k1⟩ := hlel.form
    have ci : w.cell? ⟨g, 0, none⟩ = some (.slice p0 n0 c0) := by rw [hrow.cell]; rfl
    have cj : w.cell? ⟨g, m, none⟩ = some (.slice (some ⟨b1, o1, none⟩) (n1 + 1) c1) := by
      rw [hrow.cell, ← e1, ← hlen]
      simp
    have hsw := rows_swap0 g (m + 1) c 0 m _ _ _ _ _ _ w ci cj hrow.frozen (by omega) (by omega)
    have hms := fun k => rows_run k w ⟨b, 0, none⟩ "Swap" _ (fun w => rows_method_Swap k w _) _ hcell
    have hswc := rowsFunc_Swap
    have hmi : ((m : Int) == 0) = false := by simp; omega
    go_enter Try.func86, Try.ntmps86
    go_wp2_with fail
    refine (rows_len _ _ _ _).mono ?_
    rintro e w1 ⟨rfl, rfl⟩
    clear hm
    go_wp2_with fail
    refine (calls_at hsw (by simp)).mono ?_
    rintro e w1 ⟨rfl, rfl⟩
    clear hms hsw
    have hu1 : Upd (fun k => k = g) w ((w.drew.setCell ⟨g, 0, none⟩ (.slice (some ⟨b1, o1, none⟩) (n1 + 1) c1)).setCell ⟨g, m, none⟩ (.slice p0 n0 c0)) :=
      (((Upd.refl (fun k => k = g) w).drew).setCell (p := ⟨g, 0, none⟩) (.inl rfl) _).setCell (p := ⟨g, m, none⟩) (.inl rfl) _
    have h1 : RowsAt ((w.drew.setCell ⟨g, 0, none⟩ (.slice (some ⟨b1, o1, none⟩) (n1 + 1) c1)).setCell ⟨g, m, none⟩ (.slice p0 n0 c0)) b g (m + 1) c (.slice p0 n0 c0 :: rest) (l :: t') := by
      refine ⟨hu1.blk (fun e => hgb e.symm) hblk, ?_, fun e he => (hels e (by simp at he ⊢; exact he.symm)).upd hu1 fun k _ hk => .inr hk, by simp; omega, hgb⟩
      have := ((hrow.drew).setCell 0 (.slice (some ⟨b1, o1, none⟩) (n1 + 1) c1)).setCell m (.slice p0 n0 c0)
      have e2 : ((((Value.slice p0 n0 c0) :: (t' ++ [l]).map Prod.fst ++ rest).set 0 (.slice (some ⟨b1, o1, none⟩) (n1 + 1) c1)).set m (.slice p0 n0 c0)) = (l :: t').map Prod.fst ++ .slice p0 n0 c0 :: rest := by
        rw [← e1, ← hlen]
        simp [List.set_append]
      rw [e2] at this
      exact this
    generalize (w.drew.setCell ⟨g, 0, none⟩ (.slice (some ⟨b1, o1, none⟩) (n1 + 1) c1)).setCell ⟨g, m, none⟩ (.slice p0 n0 c0) = w1 at *
    have hu1' : Upd (fun k => k = b ∨ k = g) w w1 := hu1.mono fun k _ hk => .inr hk
    clear ci cj
    go_wp2_with fail
    refine (calls_at (heap_down (rowsI w b g (m + 1) c (.slice p0 n0 c0 :: rest)) w1 _ 0 m ⟨h1, hu1'⟩ (by omega) (by simp; omega) (by simp; omega)) (by simp)).mono ?_
    rintro e w2 ⟨rfl, h2, hu2⟩
    have hl2 : (HeapFns.down ltE (m + 1) (l :: t') 0 m).1.length = m := by rw [HeapFns.down_length]; simp; omega
    by_cases hd : 0 < (HeapFns.down ltE (m + 1) (l :: t') 0 m).2
    · have hd' : decide (0 < (HeapFns.down ltE (m + 1) (l :: t') 0 m).2) = true := decide_eq_true hd
      rw [hd']
      go_wp2_with fail
      refine (hpop w2 _ h2 hl2).mono ?_
      rintro e w3 ⟨⟨v, rfl⟩, h3, hu3⟩
      go_wp2_with fail
      go_ret
      exact ⟨⟨_, rfl⟩, h3, hu2.trans hu3 fun k _ hk => .inl hk⟩
    · have hd' : decide (0 < (HeapFns.down ltE (m + 1) (l :: t') 0 m).2) = false := decide_eq_false hd
      rw [hd']
      go_wp2_with fail
      refine (calls_at (heap_up (rowsI w b g (m + 1) c (.slice p0 n0 c0 :: rest)) w2 _ 0 ⟨h2, hu2⟩ (by omega) (by omega)) (by simp)).mono ?_
      rintro e w3 ⟨rfl, h3, hu3⟩
      have e0 : HeapFns.up ltE (0 + 1) (HeapFns.down ltE (m + 1) (l :: t') 0 m).1 0 = (HeapFns.down ltE (m + 1) (l :: t') 0 m).1 := by rw [HeapFns.up, if_pos rfl]
      rw [e0] at h3
      go_wp2_with fail
      refine (hpop w3 _ h3 hl2).mono ?_
      rintro e w4 ⟨⟨v, rfl⟩, h4, hu4⟩
      go_wp2_with fail
      go_ret
      exact ⟨⟨_, rfl⟩, h4, hu3.trans hu4 fun k _ hk => .inl hk⟩
end Go.Proofs.Ytpobpijjpbggoaa
