import Derived.Test.YtocfmjiollafaaaGreatDoorRow
import Derived.Defers
import Derived.Recover
import Derived.RegionTactic
import Derived.ChangeAlike
import Derived.Outline
namespace Go.Proofs.YtocfmjiollafaaaGreatDoor
open Go.RowKit
set_option linter.unusedVariables false
set_option linter.unusedSimpArgs false
def Chain (j : Nat) (rec : Bool) : List PanicEntry := [{ v := .iface 58 (.agg #[.int .i64 (j : Int)]), recovered := rec }]
set_option maxRecDepth 100000 in
set_option maxHeartbeats 1000000 in
theorem catch_idle (p0 p1 p2 : Addr) (w : World) :
    CallsD Tryz.prog 26 #[.pointer (some p0), .pointer (some p1), .pointer (some p2)] .returning w fun e u' w' => e = .returned (.tuple #[]) ∧ u' = .returning ∧ w' = w := by
  refine callsD_of_wpS Tryz.func26 rfl fun c₀ cs hu => ?_
  apply wpS_seq
  apply wpS_region
  simp [wpOpsS, go_sem, recoverD, hu, Tryz.ntmps26, Exit.thenS]
  refine wpS_of_wp ?_
  show Code.wp Tryz.prog _ _ { tmps := #[.pointer (some p0), .pointer (some p1), .pointer (some p2), .nilIface, undef, undef, .nilIface, undef, undef, undef, undef, undef, undef, undef, undef, undef, undef, undef, undef, undef], defers := [] } w
  go_wp2
  cases c₀
  simp_all [bodyPostS, results, Tryz.results26]
theorem tmps26 (a b c x : Value) : ((#[a, b, c] : Array Value) ++ ((Array.replicate 17 undef).setIfInBounds 3 x).setIfInBounds 0 x) = #[a, b, c, x, undef, undef, x, undef, undef, undef, undef, undef, undef, undef, undef, undef, undef, undef, undef, undef] := by kernel_rfl
def CatchPost (b0 b1 b2 j : Nat) (w : World) (e : Ending) (u' : FrameMode) (w' : World) : Prop :=
  e = .returned (.tuple #[]) ∧ u' = .panicking (Chain j true) ∧
      w'.heap[b0]? = some zero6 ∧ w'.heap[b1]? = some (.cells #[.int .i64 (j : Int)] 3 (0, 0)) ∧ w'.heap[b2]? = some (.cells #[.int .i64 9] 29 (0, 0)) ∧
      (∀ k, k < w.heap.size → k ≠ b0 → k ≠ b1 → k ≠ b2 → w'.heap[k]? = w.heap[k]?) ∧ w'.os = w.os ∧ w'.tape = w.tape ∧ w'.output = w.output ∧ w.heap.size ≤ w'.heap.size
theorem ta58 (v : Value) (w : World) : (Instr.typeAssert (.iface 58 v) 20 58 true).run Tryz.prog w = .ok (.tuple #[v, .bool true]) w := by kernel_rfl
theorem eqnil58 (v : Value) (w : World) : (binOp .eql 20 (.iface 58 v) .nilIface).run Tryz.prog w = .ok (.bool false) w := by kernel_rfl
set_option maxRecDepth 100000 in
set_option maxHeartbeats 1000000 in
theorem catch_panicking (b0 b1 b2 : Nat) (j : Nat) (w : World) (a0 a1 a2 a3 a4 a5 v1 v2 : Value) (h0 : w.heap[b0]? = some (.cells #[a0, a1, a2, a3, a4, a5] 26 (0, 0))) (h1 : w.heap[b1]? = some (.cells #[v1] 3 (0, 0))) (h2 : w.heap[b2]? = some (.cells #[v2] 29 (0, 0)))
    (n01 : b0 ≠ b1) (n02 : b0 ≠ b2) (n12 : b1 ≠ b2) :
    CallsD Tryz.prog 26 #[.pointer (some ⟨b0, 0, none⟩), .pointer (some ⟨b1, 0, none⟩), .pointer (some ⟨b2, 0, none⟩)] (.panicking (Chain j false)) w (CatchPost b0 b1 b2 j w) := by
  have H0 := Lib.hid h0; have H1 := Lib.hid h1; have H2 := Lib.hid h2
  have H01 := Lib.hid n01; have H02 := Lib.hid n02; have H12 := Lib.hid n12
  clear h0 h1 h2 n01 n02 n12
  refine callsD_of_wpS Tryz.func26 rfl fun c₀ cs hu => ?_
  unfold Chain at hu
  apply wpS_seq
  apply wpS_region
  simp [wpOpsS, go_sem, recoverD, hu, Tryz.ntmps26, Exit.thenS]
  refine wpS_of_wp ?_
  rw [tmps26]
  have q1 := ta58 (.agg #[.int .i64 (j : Int)])
  have q2 := eqnil58 (.agg #[.int .i64 (j : Int)])
  go_wp2
  obtain ⟨W, hW, hbn, hgW, hWs⟩ := one_new w (.cells #[.int .i64 (j : Int)] 58)
  rw [hW]
  have l0 := (Array.getElem?_eq_some_iff.1 H0.out).1; have l1 := (Array.getElem?_eq_some_iff.1 H1.out).1; have l2 := (Array.getElem?_eq_some_iff.1 H2.out).1
  have g0 := (hgW.block b0 l0 (by simp)).trans H0.out
  have g1 := (hgW.block b1 l1 (by simp)).trans H1.out
  have g2 := (hgW.block b2 l2 (by simp)).trans H2.out
  have G0 := Lib.hid g0; have G1 := Lib.hid g1; have G2 := Lib.hid g2; have GN := Lib.hid hbn
  have k0 := cells_at g0 0; have k1 := cells_at g0 1; have k2 := cells_at g0 2; have k3 := cells_at g0 3; have k4 := cells_at g0 4; have k5 := cells_at g0 5
  have m1 := cells_at g1 0; have m2 := cells_at g2 0; have mn := cells_at hbn 0
  simp at k0 k1 k2 k3 k4 k5 m1 m2 mn
  have e1 : ¬ b0 = b1 := H01.out
  have e2 : ¬ b0 = b2 := H02.out
  have e3 : ¬ b1 = b2 := H12.out
  have e4 : ¬ b0 = w.heap.size := by omega
  have e5 : ¬ b1 = w.heap.size := by omega
  have e6 : ¬ b2 = w.heap.size := by omega
  clear g0 g1 g2 hbn hW q1 q2
  go_region
  obtain ⟨W6, hW6, h6, hg6⟩ := put6 G0.out (.int .i64 0) (.slice none 0 0) (.int .i64 0) (.slice none 0 0) (.slice none 0 0) (.slice none 0 0)
  rw [hW6]
  have hf : CatchPost b0 b1 b2 j w (.returned (.tuple #[])) (.panicking (Chain j true)) (((W6.setCell ⟨b1, 0, none⟩ (.int .i64 (j : Int))).setCell ⟨b2, 0, none⟩ (.int .i64 9)).drew) := by
    have c1 := (hg6.block b1 (by omega) (by intro e; exact e1 (Option.some.inj e).symm)).trans G1.out
    have c2 := (hg6.block b2 (by omega) (by intro e; exact e2 (Option.some.inj e).symm)).trans G2.out
    have d1 := cells_set c1 0 (.int .i64 (j : Int))
    have d2 := cells_other c2 0 (.int .i64 (j : Int)) (b' := b1) (fun e => e3 e.symm)
    have f2 := cells_set d2 0 (.int .i64 9)
    have f1 := cells_other d1 0 (.int .i64 9) (b' := b2) (fun e => e3 e)
    have f0 := cells_other (cells_other h6 0 (.int .i64 (j : Int)) (b' := b1) (fun e => e1 e)) 0 (.int .i64 9) (b' := b2) (fun e => e2 e)
    have hs : W6.heap.size = W6.heap.size := rfl
    have hz : (((W6.setCell ⟨b1, 0, none⟩ (.int .i64 (j : Int))).setCell ⟨b2, 0, none⟩ (.int .i64 9)).drew).heap.size = W6.heap.size := by simp [World.setCell, World.drew]
    refine ⟨rfl, rfl, f0, f1, f2, fun k hk n0 n1 n2 => ?_, hg6.os.trans hgW.os, hg6.tape.trans hgW.tape, hg6.output.trans hgW.output, ?_⟩
    · show ((W6.setCell ⟨b1, 0, none⟩ (.int .i64 (j : Int))).setCell ⟨b2, 0, none⟩ (.int .i64 9)).heap[k]? = _
      rw [Below.heap_setCell _ _ _ _ n2, Below.heap_setCell _ _ _ _ n1, hg6.block k (by omega) (by intro e; exact n0 (Option.some.inj e)), hgW.block k hk (by simp)]
    · rw [hz]; have := hg6.size; omega
  exact ⟨rfl, _, rfl, .tuple #[], by simp [results, Tryz.results26], hf⟩
end Go.Proofs.YtocfmjiollafaaaGreatDoor
