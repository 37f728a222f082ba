import Derived.Test.YtocfmjiollafaaaGreatDoorPrs
import Derived.Test.YtocfmjiollafaaaGreatDoorAlt
import Derived.Test.YtocfmjiollafaaaGreatDoorOfr
namespace Go.Proofs.YtocfmjiollafaaaGreatDoor
open Go.RowKit
set_option linter.unusedVariables false
set_option linter.unusedSimpArgs false
def zeroAgg : Value := .agg #[.int .i64 0, .slice none 0 0, .int .i64 0, .slice none 0 0, .slice none 0 0, .slice none 0 0]
def ParsePost (w : World) : Pr Rc → Ending → World → Prop
  | .ok n _, e, w' => ∃ u, e = .returned (.tuple #[u, .int .i64 0, .int .i64 0]) ∧ RcF w n u w' ∧ w.grownBy w' none
  | .bad j, e, w' => e = .returned (.tuple #[zeroAgg, .int .i64 (j : Int), .int .i64 9]) ∧ w.grownBy w' none
theorem three_new (w : World) (o1 o2 o3 : Obj) : ∃ W, ((w.alloc o1).alloc o2).alloc o3 = W ∧ W.heap[w.heap.size]? = some o1 ∧ W.heap[w.heap.size + 1]? = some o2 ∧ W.heap[w.heap.size + 1 + 1]? = some o3 ∧ w.grownBy W none ∧ W.heap.size = w.heap.size + 3 := by
  obtain ⟨W2, hW2, h1, h2, hg, hs⟩ := two_new w o1 o2
  obtain ⟨W, hW, h3, hg3, hs3⟩ := one_new W2 o3
  refine ⟨W, by rw [hW2]; exact hW, (hg3.block _ (by omega) (by simp)).trans h1, (hg3.block _ (by omega) (by simp)).trans h2, ?_, hg.trans hg3, by omega⟩
  rw [hs] at h3; exact h3
set_option maxRecDepth 100000 in
set_option maxHeartbeats 2000000 in
theorem Parse_any (s : ByteArray) {w : World} {r : Pr Rc} (hs : s.size ≤ 1048576) (h5 : (runesOf s).length ≤ 65536) (hr : parseM (runesOf s) = some r) : Calls Tryz.prog 13 #[.string s] w (ParsePost w r) := by
  have hmf : ∀ (fn : Fn) (first cap : Array Value) (w : World), (Instr.makeFunc fn first cap).run Tryz.prog w = .ok (.func fn first cap) w := fun _ _ _ _ => rfl
  obtain ⟨rr, hrr, hre⟩ : ∃ rr, altM 65 (runesOf s) 0 0 = some rr ∧ (match rr with | .bad j => some (Pr.bad j) | .ok n j => if sym (runesOf s) j = -1 then some (.ok n j) else some (.bad j)) = some r := by
    unfold parseM at hr
    cases h : altM 65 (runesOf s) 0 0 with
    | none => rw [h] at hr; cases hr
    | some rr => rw [h] at hr; refine ⟨rr, rfl, ?_⟩; cases rr <;> exact hr
  have HRR := Lib.hid hrr; have HRE := Lib.hid hre
  obtain ⟨l, hl⟩ : ∃ l, runesOf s = l := ⟨_, rfl⟩
  rw [hl] at HRR HRE h5
  have HL := Lib.hid hl
  clear hr hrr hre hl
  go_enter_defers Tryz.func13, Tryz.ntmps13
  obtain ⟨W, hW, hb0, hb1, hb2, hgW, hWs⟩ := three_new w zero6 (.cells #[.int .i64 0] 3) (.cells #[.int .i64 0] 29)
  unfold zero6 at hW
  go_wp2_with fail
  refine (Of_typed s W hs).mono ?_
  rintro e w4 ⟨A, c, rfl, hc, hC, hg4, hty⟩
  rw [HL.out] at hc hC hty ⊢
  obtain ⟨W5, hW5, hb5, hgW5, hWs5⟩ := one_new w4 (.cells #[.slice A l.length c, .int .i64 0, .int .i64 0] 56)
  have hR : Rd w4.heap.size l 0 0 W5 := ⟨A, c, hb5, hc, hC.step (fun k hk => ⟨hk, hgW5.block k hk (by simp)⟩), Nat.zero_le _, by decide, h5, typed_step (fun k hk => hgW5.block k hk (by simp)) hty⟩
  have hs4 := hg4.size
  have q0 := (hgW5.block w.heap.size (by omega) (by simp)).trans ((hg4.block w.heap.size (by omega) (by simp)).trans hb0)
  have q1 := (hgW5.block (w.heap.size + 1) (by omega) (by simp)).trans ((hg4.block (w.heap.size + 1) (by omega) (by simp)).trans hb1)
  have q2 := (hgW5.block (w.heap.size + 1 + 1) (by omega) (by simp)).trans ((hg4.block (w.heap.size + 1 + 1) (by omega) (by simp)).trans hb2)
  have HR := Lib.hid hR; have Q0 := Lib.hid q0; have Q1 := Lib.hid q1; have Q2 := Lib.hid q2; have HW5 := Lib.hid hW5
  clear hW hb0 hb1 hb2 hC hty hR q0 q1 q2 hW5 hb5
  have hal := alternative_any 65 HR.out HRR.out
  have HAL := Lib.hid hal
  clear hal
  go_wp2_with fail
  rw [HW5.out]
  cases rr with
  | bad j =>
    refine HAL.out.mono ?_
    rintro e w6 ⟨rfl, hg6⟩
    have hbd := Lib.hid (Option.some.inj HRE.out)
    go_wp2_with fail
    have hs5 := hg6.size
    have p0 := (hg6.block w.heap.size (by omega) (by intro e; have := Option.some.inj e; omega)).trans Q0.out
    have p1 := (hg6.block (w.heap.size + 1) (by omega) (by intro e; have := Option.some.inj e; omega)).trans Q1.out
    have p2 := (hg6.block (w.heap.size + 1 + 1) (by omega) (by intro e; have := Option.some.inj e; omega)).trans Q2.out
    refine leaves_cons (f := 26) (args := #[.pointer (some ⟨w.heap.size, 0, none⟩), .pointer (some ⟨w.heap.size + 1, 0, none⟩), .pointer (some ⟨w.heap.size + 1 + 1, 0, none⟩)]) (by simp) (by simp [go_sem]) ?_
    refine (catch_panicking w.heap.size (w.heap.size + 1) (w.heap.size + 1 + 1) j w6 _ _ _ _ _ _ _ _ p0 p1 p2 (by omega) (by omega) (by omega)).mono ?_
    rintro e u' w7 ⟨rfl, rfl, f0, f1, f2, fk, fo, ft, fu, fs⟩
    unfold zero6 at f0
    have k0 := cells_at f0 0; have k1 := cells_at f0 1; have k2 := cells_at f0 2; have k3 := cells_at f0 3; have k4 := cells_at f0 4; have k5 := cells_at f0 5
    have m1 := cells_at f1 0; have m2 := cells_at f2 0
    simp at k0 k1 k2 k3 k4 k5 m1 m2
    have hpost : ParsePost w r (.returned (.tuple #[zeroAgg, .int .i64 (j : Int), .int .i64 9])) w7 := by
      rw [← hbd.out]
      have hgw : w.grownBy w4 none := hgW.trans hg4
      refine ⟨rfl, fo.trans (hg6.os.trans (hgW5.os.trans hgw.os)), ft.trans (hg6.tape.trans (hgW5.tape.trans hgw.tape)), fu.trans (hg6.output.trans (hgW5.output.trans hgw.output)), by omega, fun k hk _ => ?_⟩
      rw [fk k (by omega) (by omega) (by omega) (by omega), hg6.block k (by omega) (by intro e; have := Option.some.inj e; omega), hgW5.block k (by omega) (by simp), hgw.block k hk (by simp)]
    have HP := Lib.hid hpost
    clear hpost
    unfold Chain
    simp [Leaves, settle, results, Tryz.results13, go_sem, k0, k1, k2, k3, k4, k5, m1, m2]
    exact HP.out
  | ok n j =>
    refine HAL.out.mono ?_
    rintro e w6 ⟨v, rfl, hV, hR6, hg6⟩
    obtain ⟨cs, rfl, hK⟩ := hV
    obtain ⟨xk, xs, xb, xr, xw, xl⟩ := n
    obtain ⟨A1, c1, A3, c3, A4, c4, A5, c5, hce, _⟩ := kRc_iff.1 hK
    have hcs : cs = #[.int .i64 xk, .slice A1 xs.length c1, .int .i64 xb, .slice A3 xr.length c3, .slice A4 xw.length c4, .slice A5 xl.length c5] := by rw [show cs = ⟨cs.toList⟩ from rfl, hce]
    subst hcs
    have hs5 := hg6.size
    have p0 := (hg6.block w.heap.size (by omega) (by intro e; have := Option.some.inj e; omega)).trans Q0.out
    have p1 := (hg6.block (w.heap.size + 1) (by omega) (by intro e; have := Option.some.inj e; omega)).trans Q1.out
    have p2 := (hg6.block (w.heap.size + 1 + 1) (by omega) (by intro e; have := Option.some.inj e; omega)).trans Q2.out
    unfold zero6 at p0
    have k0 := cells_at p0 0; have k1 := cells_at p0 1; have k2 := cells_at p0 2; have k3 := cells_at p0 3; have k4 := cells_at p0 4; have k5 := cells_at p0 5
    simp at k0 k1 k2 k3 k4 k5
    obtain ⟨W7, hW7, h7, hg7⟩ := put6 p0 (.int .i64 xk) (.slice A1 xs.length c1) (.int .i64 xb) (.slice A3 xr.length c3) (.slice A4 xw.length c4) (.slice A5 xl.length c5)
    have R7 := Lib.hid (hR6.keptB hg7 (by have := hg4.size; omega) (by intro cs fr e; rw [p0] at e; injection e with e; injection e with e1 e2 e3; cases e2))
    have hrb : w4.heap.size < w6.heap.size := hR6.cells.choose_spec.choose_spec.1
    have HK := Lib.hid hK; have HW7 := Lib.hid hW7; have P1 := Lib.hid p1; have P2 := Lib.hid p2; have H7 := Lib.hid h7
    have hs7 := hg7.size
    clear hce hK hW7 p0 p1 p2 h7 hR6
    have hgw : w.grownBy w4 none := hgW.trans hg4
    by_cases he : sym l j = -1
    · have hrr : Hid (Pr.ok (.mk xk xs xb xr xw xl) j = r) := by
        have := HRE.out
        simp only [if_pos he] at this
        exact Option.some.inj this
      have bn : (sym l j != -1) = false := by simp [he]
      have q0 := cells_at H7.out 0; have q1 := cells_at H7.out 1; have q2 := cells_at H7.out 2; have q3 := cells_at H7.out 3; have q4 := cells_at H7.out 4; have q5 := cells_at H7.out 5
      have hp1 := (hg7.block (w.heap.size + 1) (by omega) (by intro e; have := Option.some.inj e; omega)).trans P1.out
      have hp2 := (hg7.block (w.heap.size + 1 + 1) (by omega) (by intro e; have := Option.some.inj e; omega)).trans P2.out
      have m1 := cells_at hp1 0; have m2 := cells_at hp2 0
      simp at q0 q1 q2 q3 q4 q5 m1 m2
      have HP1 := Lib.hid hp1; have HP2 := Lib.hid hp2
      have a1 : ¬ w.heap.size = w.heap.size + 1 := by omega
      have a2 : ¬ w.heap.size = w.heap.size + 1 + 1 := by omega
      have a3 : ¬ w.heap.size + 1 = w.heap.size + 1 + 1 := by omega
      clear he hp1 hp2
      go_wp2_with fail
      rw [HW7.out]
      refine (next_any R7.out).mono ?_
      rintro e w8 ⟨rfl, nn, rfl⟩
      clear k0 k1 k2 k3 k4 k5
      go_wp2_with fail
      obtain ⟨W8, hW8, h8, hg8⟩ := put6 (w := W7.drewN nn) (b := w.heap.size) H7.out (.int .i64 xk) (.slice A1 xs.length c1) (.int .i64 xb) (.slice A3 xr.length c3) (.slice A4 xw.length c4) (.slice A5 xl.length c5)
      rw [hW8]
      have hs8 : W7.heap.size ≤ W8.heap.size := hg8.size
      have c1' := (hg8.block (w.heap.size + 1) (by show _ < W7.heap.size; omega) (by intro e; have := Option.some.inj e; omega)).trans HP1.out
      have c2' := (hg8.block (w.heap.size + 1 + 1) (by show _ < W7.heap.size; omega) (by intro e; have := Option.some.inj e; omega)).trans HP2.out
      have f1 := cells_other (cells_set c1' 0 (.int .i64 0)) 0 (.int .i64 0) (b' := w.heap.size + 1 + 1) (by omega)
      have f2 := cells_set (cells_other c2' 0 (.int .i64 0) (b' := w.heap.size + 1) (by omega)) 0 (.int .i64 0)
      have f0 := cells_other (cells_other h8 0 (.int .i64 0) (b' := w.heap.size + 1) (by omega)) 0 (.int .i64 0) (b' := w.heap.size + 1 + 1) (by omega)
      have hgA : W8.grownBy (W8.setCell ⟨w.heap.size + 1, 0, none⟩ (.int .i64 0)) (some (w.heap.size + 1)) := grown_setCell W8 ⟨w.heap.size + 1, 0, none⟩ _
      have hgB : (W8.setCell ⟨w.heap.size + 1, 0, none⟩ (.int .i64 0)).grownBy ((W8.setCell ⟨w.heap.size + 1, 0, none⟩ (.int .i64 0)).setCell ⟨w.heap.size + 1 + 1, 0, none⟩ (.int .i64 0)) (some (w.heap.size + 1 + 1)) := grown_setCell _ ⟨w.heap.size + 1 + 1, 0, none⟩ _
      generalize (W8.setCell ⟨w.heap.size + 1, 0, none⟩ (.int .i64 0)) = WA at hgA hgB f0 f1 f2 ⊢
      generalize (WA.setCell ⟨w.heap.size + 1 + 1, 0, none⟩ (.int .i64 0)) = WB at hgB f0 f1 f2 ⊢
      have hsA := hgA.size; have hsB := hgB.size
      have k0 := cells_at f0 0; have k1 := cells_at f0 1; have k2 := cells_at f0 2; have k3 := cells_at f0 3; have k4 := cells_at f0 4; have k5 := cells_at f0 5
      have m1 := cells_at f1 0; have m2 := cells_at f2 0
      simp at k0 k1 k2 k3 k4 k5 m1 m2
      have hblk : ∀ k, k ≠ w.heap.size → k ≠ w.heap.size + 1 → k ≠ w.heap.size + 1 + 1 → k < w6.heap.size → WB.heap[k]? = w6.heap[k]? := fun k n0 n1 n2 hk => by
        rw [hgB.block k (by omega) (by intro e; exact n2 (Option.some.inj e)), hgA.block k (by omega) (by intro e; exact n1 (Option.some.inj e)), hg8.block k (by show _ < W7.heap.size; omega) (by intro e; exact n0 (Option.some.inj e))]
        show W7.heap[k]? = _
        rw [hg7.block k (by omega) (by intro e; exact n0 (Option.some.inj e))]
      have hpost : ParsePost w r (.returned (.tuple #[.agg #[.int .i64 xk, .slice A1 xs.length c1, .int .i64 xb, .slice A3 xr.length c3, .slice A4 xw.length c4, .slice A5 xl.length c5], .int .i64 0, .int .i64 0])) WB := by
        rw [← hrr.out]
        refine ⟨_, rfl, ⟨_, rfl, kRc.step (fun k hk => ?_) HK.out⟩, hgB.os.trans (hgA.os.trans (hg8.os.trans (hg7.os.trans (hg6.os.trans (hgW5.os.trans hgw.os))))), hgB.tape.trans (hgA.tape.trans (hg8.tape.trans (hg7.tape.trans (hg6.tape.trans (hgW5.tape.trans hgw.tape))))), hgB.output.trans (hgA.output.trans (hg8.output.trans (hg7.output.trans (hg6.output.trans (hgW5.output.trans hgw.output))))), by omega, fun k hk _ => ?_⟩
        · have h1 := hk.1; have h2 := hk.2
          exact ⟨⟨by omega, by omega⟩, hblk k (by omega) (by omega) (by omega) h2⟩
        · rw [hblk k (by omega) (by omega) (by omega) (by omega), hg6.block k (by omega) (by intro e; have := Option.some.inj e; omega), hgW5.block k (by omega) (by simp), hgw.block k hk (by simp)]
      have HP := Lib.hid hpost
      clear hpost
      refine leaves_cons (f := 26) (args := #[.pointer (some ⟨w.heap.size, 0, none⟩), .pointer (some ⟨w.heap.size + 1, 0, none⟩), .pointer (some ⟨w.heap.size + 1 + 1, 0, none⟩)]) (by simp) (by simp [go_sem]) ?_
      refine (catch_idle ⟨w.heap.size, 0, none⟩ ⟨w.heap.size + 1, 0, none⟩ ⟨w.heap.size + 1 + 1, 0, none⟩ WB).mono ?_
      rintro e u' w10 ⟨rfl, rfl, rfl⟩
      simp [Leaves, settle, results, Tryz.results13, go_sem, k0, k1, k2, k3, k4, k5, m1, m2]
      exact HP.out
    · have hrr : Hid (Pr.bad j = r) := by
        have := HRE.out
        simp only [if_neg he] at this
        exact Option.some.inj this
      have bn : (sym l j != -1) = true := by simpa using he
      have HE := Lib.hid he
      clear he
      go_wp2_with fail
      rw [HW7.out]
      refine (next_any R7.out).mono ?_
      rintro e w8 ⟨rfl, nn, rfl⟩
      clear k0 k1 k2 k3 k4 k5
      go_wp2_with fail
      refine (fail_any (R7.out.drewN nn)).mono ?_
      rintro e w9 ⟨rfl, hg9⟩
      have hs9 : W7.heap.size ≤ w9.heap.size := hg9.size
      go_wp2_with fail
      have p0 := (hg9.block w.heap.size (by show _ < W7.heap.size; omega) (by intro e; have := Option.some.inj e; omega)).trans H7.out
      have p1 := (hg9.block (w.heap.size + 1) (by show _ < W7.heap.size; omega) (by intro e; have := Option.some.inj e; omega)).trans ((hg7.block (w.heap.size + 1) (by omega) (by intro e; have := Option.some.inj e; omega)).trans P1.out)
      have p2 := (hg9.block (w.heap.size + 1 + 1) (by show _ < W7.heap.size; omega) (by intro e; have := Option.some.inj e; omega)).trans ((hg7.block (w.heap.size + 1 + 1) (by omega) (by intro e; have := Option.some.inj e; omega)).trans P2.out)
      refine leaves_cons (f := 26) (args := #[.pointer (some ⟨w.heap.size, 0, none⟩), .pointer (some ⟨w.heap.size + 1, 0, none⟩), .pointer (some ⟨w.heap.size + 1 + 1, 0, none⟩)]) (by simp) (by simp [go_sem]) ?_
      refine (catch_panicking w.heap.size (w.heap.size + 1) (w.heap.size + 1 + 1) j w9 _ _ _ _ _ _ _ _ p0 p1 p2 (by omega) (by omega) (by omega)).mono ?_
      rintro e u' w10 ⟨rfl, rfl, f0, f1, f2, fk, fo, ft, fu, fs⟩
      unfold zero6 at f0
      have k0 := cells_at f0 0; have k1 := cells_at f0 1; have k2 := cells_at f0 2; have k3 := cells_at f0 3; have k4 := cells_at f0 4; have k5 := cells_at f0 5
      have m1 := cells_at f1 0; have m2 := cells_at f2 0
      simp at k0 k1 k2 k3 k4 k5 m1 m2
      have hpost : ParsePost w r (.returned (.tuple #[zeroAgg, .int .i64 (j : Int), .int .i64 9])) w10 := by
        rw [← hrr.out]
        refine ⟨rfl, fo.trans (hg9.os.trans (hg7.os.trans (hg6.os.trans (hgW5.os.trans hgw.os)))), ft.trans (hg9.tape.trans (hg7.tape.trans (hg6.tape.trans (hgW5.tape.trans hgw.tape)))), fu.trans (hg9.output.trans (hg7.output.trans (hg6.output.trans (hgW5.output.trans hgw.output)))), by omega, fun k hk _ => ?_⟩
        rw [fk k (by omega) (by omega) (by omega) (by omega), hg9.block k (by show _ < W7.heap.size; omega) (by intro e; have := Option.some.inj e; omega)]
        show W7.heap[k]? = _
        rw [hg7.block k (by omega) (by intro e; have := Option.some.inj e; omega), hg6.block k (by omega) (by intro e; have := Option.some.inj e; omega), hgW5.block k (by omega) (by simp), hgw.block k hk (by simp)]
      have HP := Lib.hid hpost
      clear hpost
      unfold Chain
      simp [Leaves, settle, results, Tryz.results13, go_sem, k0, k1, k2, k3, k4, k5, m1, m2]
      exact HP.out
end Go.Proofs.YtocfmjiollafaaaGreatDoor
