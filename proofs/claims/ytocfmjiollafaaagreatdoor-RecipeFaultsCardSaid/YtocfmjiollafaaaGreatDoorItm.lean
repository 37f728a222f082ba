import Derived.Test.YtocfmjiollafaaaGreatDoorCls
namespace Go.Proofs.YtocfmjiollafaaaGreatDoor
open Go.RowKit
set_option linter.unusedVariables false
set_option linter.unusedSimpArgs false
/-- an atom: a letter, or a node already -/
inductive Atm where
  | lt (x : Int)
  | nd (n : Rc)
def Atm.rc : Atm → Rc
  | .lt x => kPair [x] [x]
  | .nd n => n
/-- how an atom lies in an interface -/
def AtmF (w : World) : Atm → Value → World → Prop
  | .lt x, v, _ => v = .iface 21 (.int .i32 x) ∧ I32 x
  | .nd n, v, w' => ∃ u, v = .iface 26 u ∧ RcF w n u w'
@[local go_sem] theorem as21_21 (v : Value) (w : World) : (Instr.typeAssert (.iface 21 v) 20 21 true).run Tryz.prog w = .ok (.tuple #[v, .bool true]) w := by kernel_rfl
@[local go_sem] theorem as26_21 (v : Value) (w : World) : (Instr.typeAssert (.iface 26 v) 20 21 true).run Tryz.prog w = .ok (.tuple #[.int .i32 0, .bool false]) w := by kernel_rfl
@[local go_sem] theorem as26_26 (v : Value) (w : World) : (Instr.typeAssert (.iface 26 v) 20 26 false).run Tryz.prog w = .ok v w := by kernel_rfl
set_option maxRecDepth 100000 in
theorem item_lt (rb : Nat) (x : Int) (hx : I32 x) (w : World) : Calls Tryz.prog 67 #[.pointer (some ⟨rb, 0, none⟩), .iface 21 (.int .i32 x)] w (fun e w' => ∃ v, e = .returned v ∧ RcF w (kPair [x] [x]) v w' ∧ w.grownBy w' none) := by
  obtain ⟨W, hW, hb2, hgW, hWs⟩ := one_new w zero6
  unfold zero6 at hW hb2
  obtain ⟨W2, hW2, hr1, hr2, hgW2, hWs2⟩ := two_new W (.cells #[.int .i32 x] 21) (.cells #[.int .i32 x] 21)
  rw [hWs] at hr1 hr2
  have hb3 := (hgW2.block w.heap.size (by omega) (by simp)).trans hb2
  have k0 := cells_at hb3 0; have k1 := cells_at hb3 1; have k2 := cells_at hb3 2; have k3 := cells_at hb3 3; have k4 := cells_at hb3 4; have k5 := cells_at hb3 5
  simp at k0 k1 k2 k3 k4 k5
  have hgw := Lib.hid (hgW.trans hgW2)
  have B3 := Lib.hid hb3
  have HR1 := Lib.hid hr1; have HR2 := Lib.hid hr2
  clear hb2 hb3 hgW hgW2 hr1 hr2
  go_enter Tryz.func67, Tryz.ntmps67
  go_wp2_with fail
  refine rc_put rfl rfl rfl B3.out fun W6 hg7 => ?_
  have hs7 := hg7.size
  have hg8 := grown_own (grown_any hgw.out none) hg7 (by intro k hk; cases hk; exact Nat.le_refl _)
  have hl1 := (Array.getElem?_eq_some_iff.1 HR1.out).1
  have hl2 := (Array.getElem?_eq_some_iff.1 HR2.out).1
  have e1 := (hg7.block (w.heap.size + 1) hl1 (by intro e; have := Option.some.inj e; omega)).trans HR1.out
  have e2 := (hg7.block (w.heap.size + 1 + 1) hl2 (by intro e; have := Option.some.inj e; omega)).trans HR2.out
  have hC : ∀ b, W6.heap[b]? = some (.cells #[.int .i32 x] 21 (0, 0)) → w.heap.size ≤ b → kRune.C W6 (fresh w W6) (some ⟨b, 0, none⟩) [x] := by
    intro b hb h1
    refine ⟨by simp [maxN], .inr ⟨b, 0, rfl, ⟨h1, (Array.getElem?_eq_some_iff.1 hb).1⟩, fun i hi => ?_⟩⟩
    have : i = 0 := by simpa using hi
    subst this
    refine ⟨[.int .i32 x], ⟨rfl, hx⟩, fun j u hu => ?_⟩
    have hj : j = 0 := by have := (List.getElem?_eq_some_iff.1 hu).1; simpa using this
    subst hj
    simp at hu
    subst hu
    exact (cells_at hb 0).1
  exact ⟨_, rfl, ⟨_, rfl, kRc_iff.2 ⟨none, 0, _, 1, _, 1, none, 0, rfl, by decide, by decide, ⟨Nat.le_refl _, Kd.C_nil _ _ _ _⟩, ⟨Nat.le_refl _, hC _ e1 (by omega)⟩, ⟨Nat.le_refl _, hC _ e2 (by omega)⟩, ⟨Nat.le_refl _, Kd.C_nil _ _ _ _⟩⟩⟩, hg8⟩
theorem item_nd (rb : Nat) (n : Rc) (u : Value) (w0 w : World) (h : RcF w0 n u w) (h0 : w0.heap.size ≤ w.heap.size) : Calls Tryz.prog 67 #[.pointer (some ⟨rb, 0, none⟩), .iface 26 u] w (fun e w' => e = .returned u ∧ RcF w0 n u w' ∧ w.grownBy w' none) := by
  obtain ⟨W, hW, hb2, hgW, hWs⟩ := one_new w zero6
  unfold zero6 at hW hb2
  have k0 := cells_at hb2 0; have k1 := cells_at hb2 1; have k2 := cells_at hb2 2; have k3 := cells_at hb2 3; have k4 := cells_at hb2 4; have k5 := cells_at hb2 5
  simp at k0 k1 k2 k3 k4 k5
  obtain ⟨k, A1, n1, c1, b, A3, n3, c3, A4, n4, c4, A5, n5, c5, rfl⟩ := h.six
  have HV := Lib.hid h
  have B2 := Lib.hid hb2
  clear h hb2
  go_enter Tryz.func67, Tryz.ntmps67
  go_wp2_with fail
  refine rc_put rfl rfl rfl B2.out fun W6 hg7 => ?_
  have hg8 := grown_own hgW hg7 (by intro k hk; cases hk; exact Nat.le_refl _)
  exact ⟨rfl, RcV.step (fun k hk => ⟨⟨hk.1, Nat.lt_of_lt_of_le hk.2 hg8.size⟩, hg8.block k hk.2 (by simp)⟩) HV.out, hg8⟩
end Go.Proofs.YtocfmjiollafaaaGreatDoor
