/- package merge: heads, Union. -/
import Derived.Test.YtpobpijjpbggoaaMRows3
set_option linter.unusedSimpArgs false
set_option linter.unusedVariables false
namespace Go.Proofs.Ytpobpijjpbggoaa
open Go.RowKit Go.Ten Go.Ten.Mg

/-- The slice v reads as these lists of integers. -/
def LsR (w : World) (v : Value) (ls : List (List Int)) : Prop := ∃ p c, v = .slice p ls.length c ∧
  ∀ (i : Nat) (h : i < ls.length), ∃ blk off vi, p = some ⟨blk, off, none⟩ ∧ w.cell? ⟨blk, off + i, none⟩ = some vi ∧ IntsR w vi ls[i]

theorem RowsH.grew {w w' : World} {B b : Nat} {L : List (Value × List Int)} (h : RowsH w B b L) (hb : Below w.heap.size w w') : RowsH w' B b L := by
  obtain ⟨⟨p, c, h1, h2, h3, h4⟩, h5, h6⟩ := h
  refine ⟨⟨p, c, ?_, owns_grew hb h2, h3, fun e he => ⟨(h4 e he).1.grew hb, (h4 e he).2⟩⟩, h5, h6⟩
  have := h1.lt
  unfold Blk at *
  rw [hb.block b this, h1]

structure HeadsInv (ls : List (List Int)) (L : List (Value × List Int)) : Prop where
  heap : HeapFns.Heap key L.length L
  sorted : ∀ e ∈ L, e.2.Pairwise (· < ·)
  mem : ∀ x, (∃ e ∈ L, x ∈ e.2) ↔ ∃ l ∈ ls, x ∈ rising l
  len : L.length ≤ ls.length
  tot : (L.map fun e => e.2.length).sum ≤ (ls.map List.length).sum

theorem heads_push {ls : List (List Int)} {L : List (Value × List Int)} (h : HeadsInv ls L) (v : Value) (l : List Int) : HeadsInv (ls ++ [l]) (HeapFns.up ltE (L.length + 1) (L ++ [(v, rising l)]) L.length) := by
  have hp : (HeapFns.up ltE (L.length + 1) (L ++ [(v, rising l)]) L.length).Perm (L ++ [(v, rising l)]) := HeapFns.up_perm ltE _ _ _ (by simp)
  have hl : (HeapFns.up ltE (L.length + 1) (L ++ [(v, rising l)]) L.length).length = L.length + 1 := by rw [HeapFns.up_length]; simp
  refine ⟨?_, fun e he => ?_, fun x => ?_, by rw [hl]; simp; exact h.len, ?_⟩
  · rw [hl]
    refine HeapFns.up_heap key (L.length + 1) (L.length + 1) _ L.length (by omega) (by omega) (by simp) ?_ ?_
    · intro i hi hin hne
      have h1 := h.heap i hi (by omega)
      have e1 : (L ++ [(v, rising l)])[i]! = L[i]! := by
        have : i < L.length := by omega
        simp [this, List.getElem?_append_left this]
      have e2 : (L ++ [(v, rising l)])[(i - 1) / 2]! = L[(i - 1) / 2]! := by
        have : (i - 1) / 2 < L.length := by omega
        simp [this, List.getElem?_append_left this]
      rw [e1, e2]; exact h1
    · intro i hi hin hp h0
      omega
  · rcases List.mem_append.1 (hp.mem_iff.1 he) with he | he
    · exact h.sorted e he
    · simp at he; subst he; exact rising_sorted l
  · constructor
    · rintro ⟨e, he, hx⟩
      rcases List.mem_append.1 (hp.mem_iff.1 he) with he | he
      · obtain ⟨l', h1, h2⟩ := (h.mem x).1 ⟨e, he, hx⟩
        exact ⟨l', by simp [h1], h2⟩
      · simp at he; subst he
        exact ⟨l, by simp, hx⟩
    · rintro ⟨l', h1, h2⟩
      rcases List.mem_append.1 h1 with h1 | h1
      · obtain ⟨e, he, hx⟩ := (h.mem x).2 ⟨l', h1, h2⟩
        exact ⟨e, hp.mem_iff.2 (by simp [he]), hx⟩
      · simp at h1; subst h1
        exact ⟨(v, rising l'), hp.mem_iff.2 (by simp), h2⟩
  · have h1 := (hp.map fun e => e.2.length).sum_nat
    have h2 := h.tot
    have h3 := rising_len l
    rw [h1]
    simp
    omega
theorem heads_skip {ls : List (List Int)} {L : List (Value × List Int)} (h : HeadsInv ls L) (l : List Int) (hl : rising l = []) : HeadsInv (ls ++ [l]) L := by
  refine ⟨h.heap, h.sorted, fun x => ?_, by have := h.len; simp; omega, by have := h.tot; simp; omega⟩
  rw [h.mem x]
  constructor
  · rintro ⟨l', h1, h2⟩; exact ⟨l', by simp [h1], h2⟩
  · rintro ⟨l', h1, h2⟩
    rcases List.mem_append.1 h1 with h1 | h1
    · exact ⟨l', h1, h2⟩
    · simp at h1; subst h1; rw [hl] at h2; simp at h2

set_option maxRecDepth 100000 in
set_option maxHeartbeats 1000000 in
theorem heads_calls (v : Value) (ls : List (List Int)) (w : World) (h : LsR w v ls) (hl : ls.length < 65535) : Calls Try.prog 55 #[v] w fun e w' =>
    ∃ b L, e = .returned (.pointer (some ⟨b, 0, none⟩)) ∧ RowsH w' w.heap.size b L ∧ HeadsInv ls L ∧ Below w.heap.size w w' := by
  obtain ⟨p, c, rfl, hc⟩ := h
  go_enter Try.func55, Try.ntmps55
  go_wp2_with fail
  have hH0 : RowsH ((w.alloc (.cells #[] 64)).alloc (.cells #[.slice (some ⟨w.heap.size, 0, none⟩) 0 0] 152)) w.heap.size (w.heap.size + 1) [] := by
    refine ⟨⟨some ⟨w.heap.size, 0, none⟩, 0, ?_, ?_, by simp [Value.ownBlock], fun e he => by simp at he⟩, by omega, by simp⟩
    · have := Blk.new (w.alloc (.cells #[] 64)) [.slice (some ⟨w.heap.size, 0, none⟩) 0 0] 152
      simpa using this
    · refine ⟨rfl, .inr ⟨w.heap.size, 0, #[], rfl, Nat.le_refl _, ?_, Nat.le_refl _, Nat.zero_le _, rfl, rfl⟩⟩
      have := (Blk.new w [] 64).alloc (.cells #[.slice (some ⟨w.heap.size, 0, none⟩) 0 0] 152)
      exact this
  have hB0 : Below w.heap.size w ((w.alloc (.cells #[] 64)).alloc (.cells #[.slice (some ⟨w.heap.size, 0, none⟩) 0 0] 152)) := ((Below.refl _ w).alloc (Nat.le_refl _) _).alloc (by simp) _
  go_loopw [10] (fun vi wr => ∃ (k : Nat) (L : List (Value × List Int)), vi = .int .i64 k ∧ k ≤ ls.length ∧ RowsH wr w.heap.size (w.heap.size + 1) L ∧ HeadsInv (ls.take k) L ∧ Below w.heap.size w wr) (fun v _ => ls.length - (intOf v).toNat)
  case atStart => exact ⟨0, [], rfl, by omega, hH0, ⟨fun i hi hn => by simp at hn, fun e he => by simp at he, fun x => by simp, by simp, by simp⟩, hB0⟩
  case round =>
    obtain ⟨k, L, rfl, hk, hH, hI, hbw⟩ := hrel
    have hszw := hbw.size
    by_cases hlt : k < ls.length
    · obtain ⟨blk, off, vi, rfl, h1, hr⟩ := hc k hlt
      have htk : ls.take (k + 1) = ls.take k ++ [ls[k]] := List.take_succ_eq_append_getElem hlt
      have hrl := rising_len ls[k]
      have hlen := hr.len
      generalize ls[k] = l at *
      have g1 := cell_grew hbw h1
      have hrise := rising_calls vi l wr (hr.grew hbw)
      unfold NewInts at hrise
      have hr0 := hr
      obtain ⟨pv, cv, rfl, _, _⟩ := hr0
      have hcast : (k : Int) < (ls.length : Int) := by omega
      have hLk : L.length ≤ k := by have := hI.len; simp at this; omega
      clear hc h1
      go_wp2_with fail
      refine hrise.mono ?_
      rintro e w1 ⟨p1, c1, rfl, ho1, hb1⟩
      have hH1 := hH.grew hb1
      have hr1 := IntsR.of_owns ho1 (by omega)
      have hbw1 := hbw.trans (hb1.mono hszw)
      clear hrise
      by_cases hnil : rising l = []
      · have hI' := heads_skip hI l hnil
        rw [← htk] at hI'
        rw [hnil]
        go_wp2_with fail
        go_roundw
        case rel => exact ⟨k + 1, L, by simp, by omega, hH1, hI', hbw1⟩
        case measure => simp [intOf]; omega
      · have hpos : 0 < (rising l).length := List.length_pos_iff.2 hnil
        have hI' := heads_push hI (.slice p1 (rising l).length c1) l
        rw [← htk] at hI'
        obtain ⟨N, hN⟩ : ∃ N, (rising l).length = N := ⟨_, rfl⟩
        have hpush := rows_heap_push w.heap.size (w.heap.size + 1) L (.slice p1 (rising l).length c1) (rising l) w1 hH1 hr1 hnil (by omega)
          (fun k' hk' => by
            have h2 := (ho1.lt k' hk').1
            obtain ⟨p', c', hb', _⟩ := hH.ex
            have := hb'.lt
            omega)
          (fun k' p' c' hk' hb' e => by
            have h2 := (ho1.lt k' hk').1
            obtain ⟨p'', c'', hb'', ho'', _⟩ := hH.ex
            have e3 := (Blk.inj (hH1.ex.choose_spec.choose_spec.1) hb').1
            have hb3 : Blk w1 (w.heap.size + 1) [.slice p'' L.length c''] 152 := by
              have hlt3 := hb''.lt
              unfold Blk at *
              rw [hb1.block _ hlt3, hb'']
            have e4 := (Blk.inj hb3 hb').1
            simp only [List.cons.injEq, Value.slice.injEq, and_true, true_and] at e4
            rw [← e4.1, ← e4.2] at e
            have := (ho''.lt k' e.symm).2
            omega)
        rw [hN] at hpush hpos hI' ⊢
        replace hN := Lib.hid hN
        clear ho1 hr1
        go_wp2_with fail
        refine hpush.mono ?_
        rintro e w2 ⟨rfl, hH2, hb2⟩
        go_wp2_with fail
        go_roundw
        case rel => exact ⟨k + 1, _, by simp, by omega, hH2, hI', hbw1.trans hb2⟩
        case measure => simp [intOf]; omega
    · have hkl : k = ls.length := by omega
      subst hkl
      rw [List.take_length] at hI
      go_wp2_with fail
      go_ret
      exact ⟨_, L, rfl, hH, hI, hbw⟩

/-- While Union goes on: what is out, what is left in the heap. -/
structure UnionInv (ls : List (List Int)) (H : Nat) (out : List Int) (L : List (Value × List Int)) (n : Nat) : Prop where
  len : L.length = n
  heap : HeapFns.Heap key n L
  sorted : ∀ e ∈ L, e.2.Pairwise (· < ·)
  pos : ∀ e ∈ L, e.2 ≠ []
  low : ∀ e ∈ L, ∀ k, e.1.ownBlock = some k → k < H
  outS : out.Pairwise (· < ·)
  below : ∀ y ∈ out, ∀ e ∈ L, ∀ x ∈ e.2, y < x
  mem : ∀ x, (x ∈ out ∨ ∃ e ∈ L, x ∈ e.2) ↔ ∃ l ∈ ls, x ∈ rising l

theorem key_mem {e : Value × List Int} (h : e.2 ≠ []) : key e ∈ e.2 := by
  rcases e with ⟨v, l⟩
  rcases l with _ | ⟨x, t⟩
  · exact absurd rfl h
  · simp [key]
theorem key_le {e : Value × List Int} (h : e.2.Pairwise (· < ·)) {x : Int} (hx : x ∈ e.2) : key e ≤ x := by
  rcases e with ⟨v, l⟩
  rcases l with _ | ⟨y, t⟩
  · simp at hx
  · simp only at h hx
    rw [List.pairwise_cons] at h
    simp only [key, List.headD_cons]
    rcases List.mem_cons.1 hx with rfl | hx
    · exact Int.le_refl _
    · have := h.1 x hx; omega

theorem UnionInv.start {ls : List (List Int)} {H : Nat} {out : List Int} {L : List (Value × List Int)} {n : Nat} (h : UnionInv ls H out L n) (hn : 0 < n) : NextInv (key L[0]!) L L n := by
  refine ⟨h.len, h.heap, h.sorted, fun e he x hx => ⟨e, he, hx⟩, fun e he x hx _ => ⟨e, he, hx⟩, fun e he => ?_, fun e he => ⟨e, he, rfl⟩⟩
  obtain ⟨i, hi, rfl⟩ := List.getElem_of_mem he
  have := HeapFns.heap_min h.heap i (by rw [← h.len]; exact hi)
  rwa [getElem!_pos L i hi] at this

theorem UnionInv.next {ls : List (List Int)} {H : Nat} {out : List Int} {L L' : List (Value × List Int)} {n n' : Nat} (h : UnionInv ls H out L n) (hn : 0 < n) (hi : NextInv (key L[0]!) L L' n') (hgt : ∀ e ∈ L', key L[0]! < key e) (hp : ∀ e ∈ L', e.2 ≠ []) :
    UnionInv ls H (out ++ [key L[0]!]) L' n' := by
  have h0 : 0 < L.length := by rw [h.len]; exact hn
  have hm0 : L[0]! ∈ L := by rw [getElem!_pos L 0 h0]; exact List.getElem_mem h0
  have hk0 := key_mem (h.pos _ hm0)
  refine ⟨hi.len, hi.heap, hi.sorted, hp, fun e he k hk => ?_, ?_, fun y hy e he x hx => ?_, fun x => ?_⟩
  · obtain ⟨e0, h1, h2⟩ := hi.from0 e he
    exact h.low e0 h1 k (by rw [← h2]; exact hk)
  · rw [List.pairwise_append]
    refine ⟨h.outS, by simp, fun a ha b hb => ?_⟩
    rw [List.mem_singleton] at hb
    subst hb
    exact h.below a ha _ hm0 _ hk0
  · rcases List.mem_append.1 hy with hy | hy
    · obtain ⟨e0, h1, h2⟩ := hi.sub e he x hx
      exact h.below y hy e0 h1 x h2
    · rw [List.mem_singleton] at hy
      subst hy
      have h1 := hgt e he
      have h2 := key_le (hi.sorted e he) hx
      omega
  · rw [← h.mem x]
    constructor
    · rintro (hx | ⟨e, he, hx⟩)
      · rcases List.mem_append.1 hx with hx | hx
        · exact .inl hx
        · rw [List.mem_singleton] at hx; subst hx
          exact .inr ⟨_, hm0, hk0⟩
      · obtain ⟨e0, h1, h2⟩ := hi.sub e he x hx
        exact .inr ⟨e0, h1, h2⟩
    · rintro (hx | ⟨e, he, hx⟩)
      · exact .inl (by simp [hx])
      · have h1 := key_le (h.sorted e he) hx
        have h2 := (h.start hn).ge e he
        by_cases hxe : x = key L[0]!
        · exact .inl (by simp [hxe])
        · exact .inr (hi.keep e he x hx (by omega))

set_option maxRecDepth 100000 in
set_option maxHeartbeats 1000000 in
theorem union_calls (v : Value) (ls : List (List Int)) (w : World) (h : LsR w v ls) (hl : ls.length < 65535) (hT : (ls.map List.length).sum < 4294967296) : Calls Try.prog 28 #[v] w fun e w' =>
    ∃ xs, NewInts w xs e w' ∧ xs.Pairwise (· < ·) ∧ (∀ x, x ∈ xs ↔ ∃ l ∈ ls, x ∈ rising l) := by
  have hh := heads_calls v ls w h hl
  obtain ⟨p, c, rfl, hc⟩ := h
  unfold NewInts
  go_enter Try.func28, Try.ntmps28
  go_wp2_with fail
  refine hh.mono ?_
  rintro e w1 ⟨b, L0, rfl, hH, hI, hb1⟩
  clear hh hc
  have hsz1 := hb1.size
  by_cases hL : L0 = []
  · subst hL
    obtain ⟨p0, c0, hblk, _, _⟩ := hH.ex
    have hcell : w1.cell? ⟨b, 0, none⟩ = some (.slice p0 0 c0) := by rw [hblk.cell]; rfl
    go_wp2_with fail
    go_loopw [3] (fun vo wr => vo = .slice none 0 0 ∧ wr = w1) (fun _ _ => 0)
    case atStart => exact ⟨rfl, rfl⟩
    case round =>
      obtain ⟨rfl, rfl⟩ := hrel
      go_wp2_with (go_at_call 56; refine (rows_len _ _ _ _).mono ?_; rintro e w2 ⟨rfl, rfl⟩)
      go_ret
      refine ⟨[], ⟨none, 0, rfl, World.ownsRow_nil _ _ _ _, hb1⟩, by simp, fun x => ?_⟩
      have := hI.mem x
      simp at this ⊢
      exact this
  · have hlen := hH.len
    have hBb := hH.hb
    obtain ⟨g, c0, rest0, hat, hcap, hcm, hBg⟩ := hH.toAt hL
    have hglt := hat.row.lt
    have hblt := hat.blk.lt
    have hstart : UnionInv ls w1.heap.size [] L0 L0.length := by
      refine ⟨rfl, hI.heap, hI.sorted, fun e he => (hat.els e he).pos, fun e he k hk => ?_, by simp, by simp, fun x => by rw [← hI.mem x]; simp⟩
      obtain ⟨blk, off, n', c', e1, e2, k1⟩ := (hat.els e he).form
      rw [e1] at hk
      have := cell_lt k1
      simp [Value.ownBlock] at hk
      simp at this
      omega
    have hT1 : rowsMeas w1 b < 4294967296 := by rw [rowsMeas_at hat rfl]; have := hI.tot; omega
    clear hH hI hT
    go_wp2_with fail
    go_loopw [3] (fun vo wr => ∃ (n : Nat) (rest : List Value) (L : List (Value × List Int)) (out : List Int) (pg : Option Addr) (N cg : Nat), RowsAt wr b g n c0 rest L ∧ UnionInv ls w1.heap.size out L n ∧ n + rest.length = c0 ∧ n ≤ L0.length ∧
      vo = .slice pg N cg ∧ N = out.length ∧ wr.ownsRow w1.heap.size 3 1 (.slice pg N cg) N (ints out) ∧ Below w.heap.size w wr ∧ w1.heap.size ≤ wr.heap.size ∧ N + rowsMeas wr b ≤ rowsMeas w1 b) (fun _ wr => rowsMeas wr b)
    case atStart => exact ⟨L0.length, rest0, L0, [], none, 0, 0, hat, hstart, hcap, Nat.le_refl _, rfl, rfl, World.ownsRow_nil _ _ _ _, hb1, Nat.le_refl _, by omega⟩
    case round =>
      obtain ⟨n, rest, L, out, pg, N, cg, hat', hui, hcap', hnn, rfl, hN, ho, hbw, hsz, hmm⟩ := hrel
      replace hN := Lib.hid hN
      have hcell : wr.cell? ⟨b, 0, none⟩ = some (.slice (some ⟨g, 0, none⟩) n c0) := by rw [hat'.blk.cell]; rfl
      by_cases hn0 : n = 0
      · subst hn0
        have hLn : L = [] := List.eq_nil_of_length_eq_zero hui.len
        go_wp2_with (go_at_call 56; refine (rows_len _ _ _ _).mono ?_; rintro e w2 ⟨rfl, rfl⟩)
        go_ret
        have e := hN.out
        subst e
        refine ⟨out, ⟨pg, cg, rfl, owns_base ho hsz1, hbw⟩, hui.outS, fun x => ?_⟩
        have := hui.mem x
        rw [hLn] at this
        simpa using this
      · have hnext := rows_next b g n c0 rest L wr (key L[0]!) hat' (hui.start (by omega)) hcap' (by omega) rfl (by omega)
        generalize hkm : key L[0]! = m at hnext
        have hnp : (0 : Int) < (n : Int) := by omega
        go_wp2_with (go_at_call 56; refine (rows_len _ _ _ _).mono ?_; rintro e w2 ⟨rfl, rfl⟩)
        refine hnext.mono ?_
        rintro e w2 ⟨rfl, n', rest', L', h2, hi2, hgt, hcap2, hnn2, hu2, hms⟩
        have hui2 : UnionInv ls w1.heap.size (out ++ [m]) L' n' := by
          rw [← hkm]
          exact hui.next (by omega) (hkm ▸ hi2) (hkm ▸ hgt) fun e he => (h2.els e he).pos
        have ho2 : w2.ownsRow w1.heap.size 3 1 (.slice pg N cg) N (ints out) := hu2.owns ho fun k hk e => by
          have := own_ge ho hk
          rcases e with e | e <;> omega
        have hsz2 : w1.heap.size ≤ w2.heap.size := by have := hu2.size; omega
        have hbw2 : Below w.heap.size w w2 := hbw.trans (hu2.below (by omega) fun k hk e => by rcases e with e | e <;> omega)
        clear hnext hat' hui ho hi2 hgt hu2 hcell
        go_wp2_with (refine wpl_appendk _ (.tmp 12) (.tmp 15) 64 3 rfl rfl 1 8 Try.underlying64 info_int1 (by decide) (by decide) pg N cg (ints out) w1.heap.size _ [.int .i64 m] rfl rfl rfl ?h1 ?h2 ?h3 ?h4 ?h4b ?h5)
        case h1 => exact ho2.alloc _
        case h2 => simp; omega
        case h3 => exact one_new w2 (.int .i64 m) 3
        case h4 => intro u hu; simp at hu; subst hu; rfl
        case h4b => omega
        case h5 =>
          intro g' c' w3 hown hupd hg
          have hsz3 : w1.heap.size ≤ w3.heap.size := by have := hupd.size; simp at this; omega
          have hb3 : Below w1.heap.size w2 w3 := hupd.below_own (ho2.alloc _) (by simp; omega) ((Below.refl w1.heap.size w2).alloc hsz2 _)
          have hu3 : Upd (fun k => w1.heap.size ≤ k) w2 w3 := Upd.of_below hb3
          have h3 : RowsAt w3 b g n' c0 rest' L' := by
            refine ⟨hu3.blk (by omega) h2.blk, hu3.blk (by omega) h2.row, fun e he => ?_, h2.len, h2.ne⟩
            have := h2.els e he
            exact ⟨this.reads.upd hu3 fun k _ hk hk2 => by have := hui2.low e he k hk; omega, this.pos, this.off⟩
          have hms3 : rowsMeas w3 b = rowsMeas w2 b := by rw [rowsMeas_at h3 hui2.len, rowsMeas_at h2 hui2.len]
          go_wp2_with fail
          go_roundw
          case rel =>
            refine ⟨n', rest', L', out ++ [m], some ⟨g', 0, none⟩, N + 1, c', h3, hui2, hcap2, by omega, by first | rfl | simp, by simp [hN.out], ?_, hbw2.trans (hb3.mono hsz1), hsz3, by omega⟩
            simpa [ints] using hown
          case measure => omega
end Go.Proofs.Ytpobpijjpbggoaa
