/- package merge: next number of the least head. -/
import Derived.Test.YtpobpijjpbggoaaMRows2
set_option linter.unusedSimpArgs false
set_option linter.unusedVariables false
namespace Go.Proofs.Ytpobpijjpbggoaa
open Go.RowKit Go.Ten Go.Ten.Mg

def rowLen : Option Value → Nat
  | some (.slice _ k _) => k
  | _ => 0
def rowsMeas (w : World) (b : Nat) : Nat := match w.cell? ⟨b, 0, none⟩ with
  | some (.slice (some a) n _) => ((List.range n).map fun i => rowLen (w.cell? ⟨a.block, i, none⟩)).sum
  | _ => 0
theorem rowsMeas_at {w : World} {b g n c : Nat} {rest : List Value} {L : List (Value × List Int)} (h : RowsAt w b g n c rest L) (hl : L.length = n) : rowsMeas w b = (L.map fun e => e.2.length).sum := by
  unfold rowsMeas
  have hc : w.cell? ⟨b, 0, none⟩ = some (.slice (some ⟨g, 0, none⟩) n c) := by rw [h.blk.cell]; rfl
  rw [hc]
  simp only
  congr 1
  subst hl
  apply List.ext_getElem
  · simp
  · intro i h1 h2
    simp at h1 h2
    have hi : i < L.length := by simpa using h1
    obtain ⟨blk, off, k, c', e1, e2, _⟩ := (h.elem hi).form
    have := h.cell hi
    rw [e1] at this
    simp only [List.getElem_map, List.getElem_range, this, rowLen]
    rw [getElem!_pos L i hi] at e2
    exact e2.symm

/-- What is kept of a heap of rows while the number m is taken out. -/
structure NextInv (m : Int) (L0 L : List (Value × List Int)) (n : Nat) : Prop where
  len : L.length = n
  heap : HeapFns.Heap key n L
  sorted : ∀ e ∈ L, e.2.Pairwise (· < ·)
  sub : ∀ e ∈ L, ∀ x ∈ e.2, ∃ e0 ∈ L0, x ∈ e0.2
  keep : ∀ e0 ∈ L0, ∀ x ∈ e0.2, m < x → ∃ e ∈ L, x ∈ e.2
  ge : ∀ e ∈ L, m ≤ key e
  from0 : ∀ e ∈ L, ∃ e0 ∈ L0, e.1.ownBlock = e0.1.ownBlock

theorem rot_perm (t : List (Value × List Int)) : (rot t).Perm t := by
  unfold rot
  rcases List.eq_nil_or_concat t with rfl | ⟨t', l, rfl⟩
  · simp
  · rw [List.concat_eq_append]
    simp only [List.getLast?_append, List.getLast?_singleton, Option.some_or, List.dropLast_concat]
    exact (List.perm_append_singleton l t').symm
theorem rot_get (e0 : Value × List Int) (t : List (Value × List Int)) (i : Nat) (h0 : 0 < i) (hi : i < t.length) : (rot t)[i]! = (e0 :: t)[i]! := by
  obtain ⟨j, rfl⟩ : ∃ j, i = j + 1 := ⟨i - 1, by omega⟩
  unfold rot
  rcases List.eq_nil_or_concat t with rfl | ⟨t', l, rfl⟩
  · simp at hi
  · rw [List.concat_eq_append] at *
    simp at hi
    simp only [List.getLast?_append, List.getLast?_singleton, Option.some_or, List.dropLast_concat]
    have hj : j < t'.length := by omega
    simp [hj, List.getElem?_append_left hj]

theorem down_root (T : List (Value × List Int)) (h : ∀ i, 0 < i → i < T.length → (i - 1) / 2 ≠ 0 → key T[(i - 1) / 2]! ≤ key T[i]!) : HeapFns.Heap key T.length (HeapFns.down ltE (T.length + 1) T 0 T.length).1 :=
  HeapFns.down_heap key T.length (T.length + 1) T 0 (by omega) (Nat.le_refl _) h (fun _ _ _ _ h0 => by omega)

theorem inv_remove {m : Int} {L0 t : List (Value × List Int)} {v0 : Value} {n : Nat} (h : NextInv m L0 ((v0, [m]) :: t) n) : NextInv m L0 (HeapFns.down ltE (t.length + 1) (rot t) 0 t.length).1 t.length := by
  have hlr : (rot t).length = t.length := (rot_perm t).length_eq
  have hp : (HeapFns.down ltE (t.length + 1) (rot t) 0 t.length).1.Perm t := (HeapFns.down_perm ltE t.length (t.length + 1) (rot t) 0 (by omega)).trans (rot_perm t)
  have hmem : ∀ e, e ∈ (HeapFns.down ltE (t.length + 1) (rot t) 0 t.length).1 → e ∈ ((v0, [m]) :: t) := fun e he => List.mem_cons_of_mem _ (hp.mem_iff.1 he)
  refine ⟨by rw [HeapFns.down_length, hlr], ?_, fun e he => h.sorted e (hmem e he), fun e he => h.sub e (hmem e he), ?_, fun e he => h.ge e (hmem e he), fun e he => h.from0 e (hmem e he)⟩
  · have := down_root (rot t) fun i h0 hi hne => by
      rw [hlr] at hi
      rw [rot_get (v0, [m]) t i h0 hi, rot_get (v0, [m]) t ((i - 1) / 2) (by omega) (by omega)]
      exact h.heap i h0 (by rw [← h.len]; simp; omega)
    rw [hlr] at this
    exact this
  · intro e0 he0 x hx hmx
    obtain ⟨e, he, hxe⟩ := h.keep e0 he0 x hx hmx
    rcases List.mem_cons.1 he with rfl | he
    · simp at hxe; omega
    · exact ⟨e, hp.mem_iff.2 he, hxe⟩

theorem inv_fix {m y : Int} {L0 t : List (Value × List Int)} {v0 v1 : Value} {l : List Int} {n : Nat} (h : NextInv m L0 ((v0, m :: y :: l) :: t) n) (hv : v1.ownBlock = v0.ownBlock) : NextInv m L0 (HeapFns.down ltE (n + 1) ((v1, y :: l) :: t) 0 n).1 n := by
  have hl : ((v1, y :: l) :: t).length = n := by rw [← h.len]; rfl
  have hp : (HeapFns.down ltE (n + 1) ((v1, y :: l) :: t) 0 n).1.Perm ((v1, y :: l) :: t) := HeapFns.down_perm ltE n (n + 1) _ 0 (by omega)
  have hs := h.sorted _ (List.mem_cons_self ..)
  simp only at hs
  rw [List.pairwise_cons] at hs
  refine ⟨by rw [HeapFns.down_length, hl], ?_, fun e he => ?_, fun e he => ?_, ?_, fun e he => ?_, fun e he => ?_⟩
  · have := down_root ((v1, y :: l) :: t) fun i h0 hi hne => by
      have h1 := h.heap i h0 (by rw [← h.len]; exact hi)
      obtain ⟨j, rfl⟩ : ∃ j, i = j + 1 := ⟨i - 1, by omega⟩
      obtain ⟨k, hk⟩ : ∃ k, (j + 1 - 1) / 2 = k + 1 := ⟨(j + 1 - 1) / 2 - 1, by omega⟩
      rw [hk] at h1 ⊢
      simpa using h1
    rw [hl] at this
    exact this
  · rcases List.mem_cons.1 (hp.mem_iff.1 he) with rfl | he
    · exact hs.2
    · exact h.sorted e (List.mem_cons_of_mem _ he)
  · rcases List.mem_cons.1 (hp.mem_iff.1 he) with rfl | he
    · exact fun x hx => h.sub _ (List.mem_cons_self ..) x (List.mem_cons_of_mem _ hx)
    · exact h.sub e (List.mem_cons_of_mem _ he)
  · intro e0 he0 x hx hmx
    obtain ⟨e, he, hxe⟩ := h.keep e0 he0 x hx hmx
    rcases List.mem_cons.1 he with rfl | he
    · simp only at hxe
      rcases List.mem_cons.1 hxe with rfl | hxe
      · omega
      · exact ⟨(v1, y :: l), hp.mem_iff.2 (List.mem_cons_self ..), hxe⟩
    · exact ⟨e, hp.mem_iff.2 (List.mem_cons_of_mem _ he), hxe⟩
  · rcases List.mem_cons.1 (hp.mem_iff.1 he) with rfl | he
    · have := hs.1 y (List.mem_cons_self ..)
      simp [key]; omega
    · exact h.ge e (List.mem_cons_of_mem _ he)
  · rcases List.mem_cons.1 (hp.mem_iff.1 he) with rfl | he
    · obtain ⟨e0, h1, h2⟩ := h.from0 _ (List.mem_cons_self ..)
      exact ⟨e0, h1, by rw [← h2]; exact hv⟩
    · exact h.from0 e (List.mem_cons_of_mem _ he)

set_option maxRecDepth 100000 in
set_option maxHeartbeats 1000000 in
theorem rows_next (b g n c : Nat) (rest : List Value) (L : List (Value × List Int)) (w : World) (m : Int) (h : RowsAt w b g n c rest L) (hinv : NextInv m L L n) (hcap : n + rest.length = c) (hn0 : 0 < n) (hm : key L[0]! = m) (hn : n < 65536) :
    Calls Try.prog 57 #[.pointer (some ⟨b, 0, none⟩)] w fun e w' => e = .returned (.int .i64 m) ∧
      ∃ n' rest' L', RowsAt w' b g n' c rest' L' ∧ NextInv m L L' n' ∧ (∀ e ∈ L', m < key e) ∧ n' + rest'.length = c ∧ n' ≤ n ∧ Upd (fun k => k = b ∨ k = g) w w' ∧ rowsMeas w' b < rowsMeas w b := by
  have hm0 := rowsMeas_at h hinv.len
  have hcell : w.cell? ⟨b, 0, none⟩ = some (.slice (some ⟨g, 0, none⟩) n c) := by rw [h.blk.cell]; rfl
  have hi0 : 0 < L.length := by rw [hinv.len]; exact hn0
  have h0 := h.cell hi0
  obtain ⟨blk, off, k0, c0, e1, e2, k1⟩ := (h.elem hi0).form
  rw [e1] at h0
  rw [hm] at k1
  go_enter Try.func57, Try.ntmps57
  go_wp2_with fail
  clear e1 e2 k1 h0
  go_loopw [] (fun wr => ∃ n' rest' L', RowsAt wr b g n' c rest' L' ∧ NextInv m L L' n' ∧ n' + rest'.length = c ∧ n' ≤ n ∧ Upd (fun k => k = b ∨ k = g) w wr ∧ (L' = L ∨ rowsMeas wr b < rowsMeas w b)) (fun wr => rowsMeas wr b)
  case atStart => exact ⟨n, rest, L, h, hinv, hcap, Nat.le_refl _, Upd.refl _ _, .inl rfl⟩
  case round =>
    obtain ⟨n', rest', L', h', hinv', hcap', hnn, hu, hor⟩ := hrel
    have hle : rowsMeas wr b ≤ rowsMeas w b := by
      rcases hor with rfl | h1
      · rw [rowsMeas_at h' hinv'.len, hm0]; exact Nat.le_refl _
      · omega
    have hor := Lib.hid hor
    have hcell' : wr.cell? ⟨b, 0, none⟩ = some (.slice (some ⟨g, 0, none⟩) n' c) := by rw [h'.blk.cell]; rfl
    rcases L' with _ | ⟨⟨v0, l0⟩, t⟩
    · have hn' : n' = 0 := by rw [← hinv'.len]; rfl
      subst hn'
      go_wp2_with (go_at_call 56; refine (rows_len _ _ _ _).mono ?_; rintro e w2 ⟨rfl, rfl⟩)
      go_ret
      refine ⟨rfl, 0, rest', [], h', hinv', fun e he => by simp at he, hcap', hnn, hu, ?_⟩
      rcases hor.out with e | e
      · rw [← e] at hi0; simp at hi0
      · exact e
    · have hel := h'.els _ (List.mem_cons_self ..)
      obtain ⟨blk, off, k0, c0, e1, e2, k1⟩ := hel.form
      simp only at e1 e2
      subst e1
      have h0 := h'.cell (i := 0) (by simp)
      simp only [List.getElem!_cons_zero] at h0
      have hn' : t.length + 1 = n' := by rw [← hinv'.len]; rfl
      have hfr := h'.row.frozen
      by_cases hk : key (.slice (some ⟨blk, off, none⟩) (k0 + 1) c0, l0) = m
      · rw [hk] at k1
        go_wp2_with (go_at_call 56; refine (rows_len _ _ _ _).mono ?_; rintro e w2 ⟨rfl, rfl⟩)
        refine undraw ?hB ?_
        case hB => kernel_rfl
        intro K hK
        simp only [Undraw.withAsks, Undraw.asksOf, Undraw.intsOf, Undraw.strsOf, List.contains, List.elem, Nat.reduceBEq, if_true, List.map_nil, List.map_cons, List.nil_append, List.append_nil, List.cons_append]
        have hcp := hel.cap
        have hgb := h'.ne
        have hgb2 := Ne.symm h'.ne
        have hpm : ∀ T U : List (Value × List Int), T.Perm U → (T.map fun e => e.2.length).sum = (U.map fun e => e.2.length).sum := fun T U h => (h.map _).sum_nat
        have hmeas := rowsMeas_at h' hinv'.len
        rcases k0 with _ | k0
        · obtain ⟨x, rfl⟩ := List.length_eq_one_iff.1 e2
          have hx : x = m := by simpa [key] using hk
          subst hx
          have hrem : ∀ (p1 : Option Addr) (c1 : Nat), Calls Try.prog 86 #[.iface 107 (.pointer (some ⟨b, 0, none⟩)), .int .i64 0] (wr.setCell ⟨g, 0, none⟩ (.slice p1 0 c1)).drew fun e w' => (∃ v, e = .returned v) ∧
              ∃ rest'' L'', RowsAt w' b g t.length c rest'' L'' ∧ NextInv x L L'' t.length ∧ t.length + rest''.length = c ∧ Upd (fun k => k = b ∨ k = g) w w' ∧ rowsMeas w' b < rowsMeas wr b := by
            intro p1 c1
            have hu1 : Upd (fun k => k = g) wr (wr.setCell ⟨g, 0, none⟩ (.slice p1 0 c1)).drew := ((Upd.refl (fun k => k = g) wr).setCell (p := ⟨g, 0, none⟩) (.inl rfl) _).drew
            have hrow := (h'.row.setCell 0 (.slice p1 0 c1)).drew
            simp only [List.map_cons, List.cons_append, List.set_cons_zero] at hrow
            have hblk := hu1.blk (fun e => hgb2 e) h'.blk
            rw [← hn'] at hblk
            refine (rows_heap_remove b g t.length c rest' p1 0 c1 t _ hblk hrow (fun e he => (h'.els e (List.mem_cons_of_mem _ he)).upd hu1 fun k _ hk => .inr hk) rfl hgb (by omega) (by omega)).mono ?_
            rintro e w' ⟨hv, h2, hu2⟩
            have hi2 := inv_remove hinv'
            refine ⟨hv, _, _, h2, hi2, by simp; omega, (hu.trans hu1 fun k _ hk => .inr hk).trans hu2 fun k _ hk => hk, ?_⟩
            rw [rowsMeas_at h2 hi2.len, hmeas]
            have hp : (HeapFns.down ltE (t.length + 1) (rot t) 0 t.length).1.Perm t := (HeapFns.down_perm ltE t.length (t.length + 1) (rot t) 0 (by rw [(rot_perm t).length_eq]; exact Nat.le_refl _)).trans (rot_perm t)
            rw [hpm _ _ hp]
            simp
          clear h h' hinv hinv' hel k1 hu hpm hmeas
          go_wp2_with fail
          all_goals
            refine (hrem _ _).mono ?_
            rintro e w3 ⟨⟨v, rfl⟩, rest'', L'', q1, q2, q3, q4, q5⟩
            clear hrem
            go_wp2_with fail
            go_roundw
            case rel => exact ⟨_, rest'', L'', q1, q2, q3, by omega, q4, .inr (by omega)⟩
            case measure => exact q5
        · obtain ⟨x, y, l, rfl⟩ : ∃ x y l, l0 = x :: y :: l := by
            rcases l0 with _ | ⟨x, _ | ⟨y, l⟩⟩
            · simp at e2
            · simp at e2
            · exact ⟨x, y, l, rfl⟩
          have hx : x = m := by simpa [key] using hk
          subst hx
          have hlk : l.length = k0 := by simpa using e2
          have hfix : ∀ (c1 : Nat), k0 + 1 ≤ c1 → Calls Try.prog 87 #[.iface 107 (.pointer (some ⟨b, 0, none⟩)), .int .i64 0] (wr.setCell ⟨g, 0, none⟩ (.slice (some ⟨blk, off + 1, none⟩) (k0 + 1) c1)).drew fun e w' => e = .returned (.tuple #[]) ∧
              ∃ rest'' L'', RowsAt w' b g n' c rest'' L'' ∧ NextInv x L L'' n' ∧ n' + rest''.length = c ∧ Upd (fun k => k = b ∨ k = g) w w' ∧ rowsMeas w' b < rowsMeas wr b := by
            intro c1 hc1
            have hu1 : Upd (fun k => k = g) wr (wr.setCell ⟨g, 0, none⟩ (.slice (some ⟨blk, off + 1, none⟩) (k0 + 1) c1)).drew := ((Upd.refl (fun k => k = g) wr).setCell (p := ⟨g, 0, none⟩) (.inl rfl) _).drew
            have hrow := (h'.row.setCell 0 (.slice (some ⟨blk, off + 1, none⟩) (k0 + 1) c1)).drew
            simp only [List.map_cons, List.cons_append, List.set_cons_zero] at hrow
            have hnew : Elem wr b g (.slice (some ⟨blk, off + 1, none⟩) (k0 + 1) c1, y :: l) := by
              obtain ⟨⟨p', c', hv, ⟨hll, _⟩, hcc⟩, _, ho⟩ := hel
              refine ⟨⟨some ⟨blk, off + 1, none⟩, c1, by simp [hlk], ⟨⟨by have := hll.1; simp at this ⊢; omega, by simp [hlk]; omega⟩, fun a e _ => by cases e; rfl⟩, fun i hi => ?_⟩, by simp, fun k hk => ho k (by simpa [Value.ownBlock] using hk)⟩
              obtain ⟨b', o', e1, h1⟩ := hcc (i + 1) (by simp at hi ⊢; omega)
              simp only [Value.slice.injEq] at hv
              rw [← hv.1] at e1
              simp only [Option.some.injEq, Addr.mk.injEq] at e1
              obtain ⟨rfl, rfl, _⟩ := e1
              refine ⟨blk, off + 1, rfl, ?_⟩
              rw [show off + 1 + i = off + (i + 1) by omega, h1]
              rfl
            have hat : RowsAt (wr.setCell ⟨g, 0, none⟩ (.slice (some ⟨blk, off + 1, none⟩) (k0 + 1) c1)).drew b g n' c rest' ((.slice (some ⟨blk, off + 1, none⟩) (k0 + 1) c1, y :: l) :: t) := by
              refine ⟨hu1.blk (fun e => hgb2 e) h'.blk, hrow, fun e he => ?_, by simp; omega, hgb⟩
              rcases List.mem_cons.1 he with rfl | he
              · exact hnew.upd hu1 fun k _ hk => .inr hk
              · exact (h'.els e (List.mem_cons_of_mem _ he)).upd hu1 fun k _ hk => .inr hk
            refine (rows_heap_fix b g n' c rest' _ _ hat (by simp; omega) (by omega) (by omega)).mono ?_
            rintro e w' ⟨rfl, h2, hu2⟩
            have hi2 := inv_fix (v1 := .slice (some ⟨blk, off + 1, none⟩) (k0 + 1) c1) hinv' rfl
            refine ⟨rfl, _, _, h2, hi2, hcap', (hu.trans hu1 fun k _ hk => .inr hk).trans hu2 fun k _ hk => hk, ?_⟩
            rw [rowsMeas_at h2 hi2.len, hmeas]
            rw [hpm _ _ (HeapFns.down_perm ltE n' (n' + 1) _ 0 (by simp; omega))]
            simp
          clear h h' hinv hinv' hel k1 hu hpm hmeas
          go_wp2_with fail
          refine (hfix _ (by omega)).mono ?_
          rintro e w3 ⟨rfl, rest'', L'', q1, q2, q3, q4, q5⟩
          clear hfix
          go_wp2_with fail
          go_roundw
          case rel => exact ⟨_, rest'', L'', q1, q2, q3, hnn, q4, .inr (by omega)⟩
          case measure => exact q5
      · have hkb : (key (.slice (some ⟨blk, off, none⟩) (k0 + 1) c0, l0) == m) = false := by simpa using hk
        have hmin : ∀ e ∈ (((.slice (some ⟨blk, off, none⟩) (k0 + 1) c0 : Value), l0) :: t), m < key e := by
          intro e he
          have h1 := hinv'.ge _ (List.mem_cons_self ..)
          obtain ⟨i, hi, rfl⟩ := List.getElem_of_mem he
          have h2 := HeapFns.heap_min hinv'.heap i (by rw [← hinv'.len]; exact hi)
          rw [getElem!_pos _ i hi] at h2
          simp only [List.getElem!_cons_zero] at h2
          omega
        generalize key (.slice (some ⟨blk, off, none⟩) (k0 + 1) c0, l0) = y at *
        go_wp2_with (go_at_call 56; refine (rows_len _ _ _ _).mono ?_; rintro e w2 ⟨rfl, rfl⟩)
        go_ret
        refine ⟨rfl, n', rest', _, h', hinv', hmin, hcap', hnn, hu, ?_⟩
        rcases hor.out with e | e
        · have := hmin L[0]! (by rw [e, getElem!_pos L 0 hi0]; exact List.getElem_mem hi0)
          omega
        · exact e
end Go.Proofs.Ytpobpijjpbggoaa
