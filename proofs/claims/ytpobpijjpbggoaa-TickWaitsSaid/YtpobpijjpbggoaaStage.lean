/- tendrillaw14.TickWaits: the stage that its walk goes through. -/
import Derived.Test.YtpobpijjpbggoaaKeep
set_option linter.unusedSimpArgs false
set_option linter.unusedVariables false
namespace Go.Proofs.Ytpobpijjpbggoaa
open Go.RowKit Go.Ten

/-- The memory M of n clients at m; its pointer in mb, the configuration in c. -/
structure StgW (u w : World) (c mb m n : Nat) (M : MemF.Mem) (W : MW) : Prop where
  mem : MemX w m M W
  ok : MemF.MemOk M
  nc : ¬ MF m W c
  nb : ¬ MF m W mb
  cfg : w.cell? ⟨c, 5, none⟩ = some (.int .i64 n)
  ptr : w.cell? ⟨mb, 0, none⟩ = some (.pointer (some ⟨m, 0, none⟩))
  cl : M.clients = n
  one : 1 ≤ n
  few : n ≤ 8
  base : Below u.heap.size u w
  fresh : ∀ k, MF m W k → u.heap.size ≤ k
def Stg (u w : World) (c mb m n : Nat) (M : MemF.Mem) : Prop := ∃ W, StgW u w c mb m n M W
theorem StgW.step {u w w' : World} {c mb m n : Nat} {M M' : MemF.Mem} {W : MW} (h : StgW u w c mb m n M W) (hs : MemStep w m W w' M') (hok : MemF.MemOk M') (hcl : M'.clients = n) : Stg u w' c mb m n M' := by
  obtain ⟨W', hX, hF, hu⟩ := hs
  have h1 := cell_lt h.cfg
  have h2 := cell_lt h.ptr
  refine ⟨W', hX, hok, fun hh => ?_, fun hh => ?_, hu.cell (p := ⟨c, 5, none⟩) h.nc h.cfg, hu.cell (p := ⟨mb, 0, none⟩) h.nb h.ptr, hcl, h.one, h.few, h.base.trans (hu.below h.base.size fun k hk e => by have := h.fresh k e; omega), fun k hk => ?_⟩
  · rcases hF c hh with h3 | h3
    · exact h.nc h3
    · simp only at h1; omega
  · rcases hF mb hh with h3 | h3
    · exact h.nb h3
    · simp only at h2; omega
  · have := h.base.size
    rcases hF k hk with h3 | h3
    · exact h.fresh k h3
    · omega
theorem Stg.below {u w w' : World} {c mb m n : Nat} {M : MemF.Mem} (h : Stg u w c mb m n M) (hB : Below w.heap.size w w') : Stg u w' c mb m n M := by
  obtain ⟨W, h⟩ := h
  have hu := Upd.of_below' (S := fun _ => False) hB
  exact ⟨W, h.mem.upd hu (fun _ _ h => h), h.ok, h.nc, h.nb, hu.cell (p := ⟨c, 5, none⟩) (fun h => h) h.cfg, hu.cell (p := ⟨mb, 0, none⟩) (fun h => h) h.ptr, h.cl, h.one, h.few, h.base.trans (hB.mono h.base.size), h.fresh⟩
theorem Stg.alloc {u w : World} {c mb m n : Nat} {M : MemF.Mem} (h : Stg u w c mb m n M) (o : Obj) : Stg u (w.alloc o) c mb m n M := h.below ((Below.refl _ w).alloc (Nat.le_refl _) o)
theorem Stg.baseOf {u w : World} {c mb m n : Nat} {M : MemF.Mem} (h : Stg u w c mb m n M) : Below u.heap.size u w := h.choose_spec.base
theorem Stg.drew {u w : World} {c mb m n : Nat} {M : MemF.Mem} (h : Stg u w c mb m n M) : Stg u w.drew c mb m n M := h.below (Below.refl _ w).drew
theorem Stg.ptr {u w : World} {c mb m n : Nat} {M : MemF.Mem} (h : Stg u w c mb m n M) : w.cell? ⟨mb, 0, none⟩ = some (.pointer (some ⟨m, 0, none⟩)) := h.choose_spec.ptr
theorem Stg.cfg {u w : World} {c mb m n : Nat} {M : MemF.Mem} (h : Stg u w c mb m n M) : w.cell? ⟨c, 5, none⟩ = some (.int .i64 n) := h.choose_spec.cfg

theorem stg_run {u w : World} {c mb m n : Nat} {M M' : MemF.Mem} {r : Bool} (h : Stg u w c mb m n M) (hr : MemF.Tk.loop 60 (MemF.Tk.new n) M = (M', r)) (hcl : M'.clients = n) :
    Calls Try.prog 10 #[.pointer (some ⟨c, 0, none⟩), .pointer (some ⟨mb, 0, none⟩)] w fun e w' => e = .returned (.bool r) ∧ Stg u w' c mb m n M' := by
  obtain ⟨W, h⟩ := h
  refine (tickrun_calls c mb m n M W w h.cfg h.ptr h.mem h.ok h.cl (by have := h.one; omega) (by have := h.few; omega) h.nc h.nb).mono ?_
  rintro e w' ⟨he, hs, hok⟩
  rw [hr] at he hs hok
  exact ⟨he, h.step hs hok hcl⟩
theorem stg_do {u w : World} {c mb m n : Nat} {M M' : MemF.Mem} {r : MemF.Res} (k : Int) (a : MemF.Acc) (h : Stg u w c mb m n M) (hr : M.do_ k a = (M', r)) (hw : a.words = []) (hcl : M'.clients = n) :
    Calls Try.prog 14 #[.pointer (some ⟨m, 0, none⟩), .int .i64 k, accV a (.slice none 0 0)] w fun e w' => (∃ p l cp, e = .returned (.agg #[.int .i64 r.err, .int .i64 r.n, .bool r.ok, .slice p l cp])) ∧ Stg u w' c mb m n M' := by
  obtain ⟨W, h⟩ := h
  have hd := do_calls m M W k a (.slice none 0 0) w h.mem h.ok (by rw [hw]; exact CellsR.nil _) (fun k hk => by simp [Value.ownBlock] at hk)
  have hok := h.ok.do_ k a (by rw [hw]; simp)
  rw [hr] at hd hok
  refine hd.mono ?_
  rintro e w' ⟨⟨v, he, hcr, -⟩, hs⟩
  obtain ⟨p, cp, rfl, -⟩ := hcr
  exact ⟨⟨p, _, cp, he⟩, h.step hs hok hcl⟩
theorem stg_now {u w : World} {c mb m n : Nat} {M : MemF.Mem} (h : Stg u w c mb m n M) :
    Calls Try.prog 15 #[.pointer (some ⟨m, 0, none⟩)] w fun e w' => e = .returned (.int .i64 M.ep.now) ∧ w' = w := by
  obtain ⟨W, h⟩ := h
  exact mem_now_calls m M W w h.mem
theorem stg_live {u w : World} {c mb m n : Nat} {M : MemF.Mem} (h : Stg u w c mb m n M) :
    Calls Try.prog 16 #[.pointer (some ⟨m, 0, none⟩)] w fun e w' => e = .returned (.int .i64 M.ar.liveN) ∧ w' = w := by
  obtain ⟨W, h⟩ := h
  exact mem_live_calls m M W w h.mem h.ok.ar
theorem stg_limbo {u w : World} {c mb m n : Nat} {M : MemF.Mem} (k : Int) (h : Stg u w c mb m n M) :
    Calls Try.prog 17 #[.pointer (some ⟨m, 0, none⟩), .int .i64 k] w fun e w' => e = .returned (.int .i64 (M.ep.limboN k)) ∧ w' = w := by
  obtain ⟨W, h⟩ := h
  exact mem_limbo_calls m M W k w h.mem
theorem res_ok (e n : Int) (b : Bool) (v : Value) (w : World) : Sem.run Try.prog (Instr.field 44 (.agg #[.int .i64 e, .int .i64 n, .bool b, v]) 2) w = .ok (.bool b) w := by
  unfold Instr.field
  have hu := run_underlying (P := Try.prog) (t := 44) Try.underlying44
  simp [go_sem, hu, part, asAgg]
theorem res_err (e n : Int) (b : Bool) (v : Value) (w : World) : Sem.run Try.prog (Instr.field 44 (.agg #[.int .i64 e, .int .i64 n, .bool b, v]) 0) w = .ok (.int .i64 e) w := by
  unfold Instr.field
  have hu := run_underlying (P := Try.prog) (t := 44) Try.underlying44
  simp [go_sem, hu, part, asAgg]
/-- The memory that New makes, with its cells. -/
theorem stg_new {u w : World} {m n : Nat} {M : MemF.Mem} {c : Nat} {W : MW} (hX : MemX w m M W) (hM : MemF.MemOk M) (hcl : M.clients = n) (h1 : 1 ≤ n) (h8 : n ≤ 8) (hc : ¬ MF m W c) (hcfg : w.cell? ⟨c, 5, none⟩ = some (.int .i64 n)) (hbase : Below u.heap.size u w) (hfr : ∀ k, MF m W k → u.heap.size ≤ k) :
    Stg u (w.alloc (.cells #[.pointer (some ⟨m, 0, none⟩)] 27)) c w.heap.size m n M := by
  have hu := Upd.of_below' (S := fun _ => False) ((Below.refl _ w).alloc (Nat.le_refl _) (.cells #[.pointer (some ⟨m, 0, none⟩)] 27))
  exact ⟨W, hX.upd hu (fun _ _ h => h), hM, hc, fun hh => by have := hX.lt _ hh; omega, hu.cell (p := ⟨c, 5, none⟩) (fun h => h) hcfg, by simp [go_sem], hcl, h1, h8, hbase.alloc hbase.size _, hfr⟩
/-- One of two memories. -/
def Stg2 (u w : World) (c mb m n : Nat) (M1 M2 : MemF.Mem) : Prop := Stg u w c mb m n M1 ∨ Stg u w c mb m n M2
section
variable {u w : World} {c mb m n : Nat} {M1 M2 N1 N2 : MemF.Mem}
theorem Stg2.ptr (h : Stg2 u w c mb m n M1 M2) : w.cell? ⟨mb, 0, none⟩ = some (.pointer (some ⟨m, 0, none⟩)) := h.elim Stg.ptr Stg.ptr
theorem Stg2.baseOf (h : Stg2 u w c mb m n M1 M2) : Below u.heap.size u w := h.elim Stg.baseOf Stg.baseOf
theorem Stg2.alloc (h : Stg2 u w c mb m n M1 M2) (o : Obj) : Stg2 u (w.alloc o) c mb m n M1 M2 := h.imp (fun h => h.alloc o) fun h => h.alloc o
theorem Stg2.drew (h : Stg2 u w c mb m n M1 M2) : Stg2 u w.drew c mb m n M1 M2 := h.imp Stg.drew Stg.drew
theorem stg2_run (h : Stg2 u w c mb m n M1 M2) (h1 : MemF.Tk.loop 60 (MemF.Tk.new n) M1 = (N1, true)) (h2 : MemF.Tk.loop 60 (MemF.Tk.new n) M2 = (N2, true)) (hc1 : N1.clients = n) (hc2 : N2.clients = n) :
    Calls Try.prog 10 #[.pointer (some ⟨c, 0, none⟩), .pointer (some ⟨mb, 0, none⟩)] w fun e w' => e = .returned (.bool true) ∧ Stg2 u w' c mb m n N1 N2 :=
  h.elim (fun h => (stg_run h h1 hc1).mono fun _ _ h => ⟨h.1, .inl h.2⟩) fun h => (stg_run h h2 hc2).mono fun _ _ h => ⟨h.1, .inr h.2⟩
theorem stg2_do (k : Int) (a : MemF.Acc) {r : MemF.Res} (h : Stg2 u w c mb m n M1 M2) (h1 : M1.do_ k a = (N1, r)) (h2 : M2.do_ k a = (N2, r)) (hw : a.words = []) (hc1 : N1.clients = n) (hc2 : N2.clients = n) :
    Calls Try.prog 14 #[.pointer (some ⟨m, 0, none⟩), .int .i64 k, accV a (.slice none 0 0)] w fun e w' => (∃ p l cp, e = .returned (.agg #[.int .i64 r.err, .int .i64 r.n, .bool r.ok, .slice p l cp])) ∧ Stg2 u w' c mb m n N1 N2 :=
  h.elim (fun h => (stg_do k a h h1 hw hc1).mono fun _ _ h => ⟨h.1, .inl h.2⟩) fun h => (stg_do k a h h2 hw hc2).mono fun _ _ h => ⟨h.1, .inr h.2⟩
theorem stg2_now {x : Int} (h : Stg2 u w c mb m n M1 M2) (h1 : M1.ep.now = x) (h2 : M2.ep.now = x) :
    Calls Try.prog 15 #[.pointer (some ⟨m, 0, none⟩)] w fun e w' => e = .returned (.int .i64 x) ∧ w' = w :=
  h.elim (fun h => by have := stg_now h; rw [h1] at this; exact this) fun h => by have := stg_now h; rw [h2] at this; exact this
theorem stg2_live {x : Int} (h : Stg2 u w c mb m n M1 M2) (h1 : M1.ar.liveN = x) (h2 : M2.ar.liveN = x) :
    Calls Try.prog 16 #[.pointer (some ⟨m, 0, none⟩)] w fun e w' => e = .returned (.int .i64 x) ∧ w' = w :=
  h.elim (fun h => by have := stg_live h; rw [h1] at this; exact this) fun h => by have := stg_live h; rw [h2] at this; exact this
theorem stg2_limbo {x : Int} (h : Stg2 u w c mb m n M1 M2) (h1 : M1.ep.limboN 0 = x) (h2 : M2.ep.limboN 0 = x) :
    Calls Try.prog 17 #[.pointer (some ⟨m, 0, none⟩), .int .i64 0] w fun e w' => e = .returned (.int .i64 x) ∧ w' = w :=
  h.elim (fun h => by have := stg_limbo 0 h; rw [h1] at this; exact this) fun h => by have := stg_limbo 0 h; rw [h2] at this; exact this
end
theorem mk_limbo (R : Int) (A : MemF.Ar) (now : Int) (n k : Nat) (p : Int) (l : List (Int × Int)) (hn : 1 ≤ n) : (MemF.mk R A now (MemF.clP n k p l) n).ep.limboN 0 = l.length := by
  unfold MemF.Ep.limboN MemF.mk
  simp only [MemF.clP_len]
  have e0 : (0 : Int).toNat = 0 := rfl
  rw [e0, if_neg (by omega), MemF.clP_get _ _ _ _ _ (by omega)]
  simp
end Go.Proofs.Ytpobpijjpbggoaa
