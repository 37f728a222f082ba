import Derived.Test.YtocfmjiollafaaaGreatDoorWord
import Derived.Test.YtocfmjiollafaaaGreatDoorRcv
import Derived.Deep.DeepCutAuto
import Derived.Deep.CutBlock
namespace Go.Proofs.YtocfmjiollafaaaGreatDoor
open Go.RowKit
set_option linter.unusedVariables false
set_option linter.unusedSimpArgs false
set_option maxHeartbeats 400000 in
theorem In2_any (x : Int) (w : World) : Calls Tryz.prog 25 #[.int .i64 2, .int .i32 x] w (RetB w (inS 2 x)) := by
  by_cases h0 : 0 ≤ x
  · by_cases h1 : x < 1114112
    · by_cases h2 : 55296 ≤ x
      · by_cases h3 : x < 57344
        · have he : inS 2 x = false := by simp [inS]; omega
          have HE := Lib.hid he
          clear he
          go_enter Tryz.func25, Tryz.ntmps25
          go_wp2
          go_ret
          exact RetB.mk HE.out.symm
        · have he : inS 2 x = true := by simp [inS]; omega
          have HE := Lib.hid he
          clear he
          go_enter Tryz.func25, Tryz.ntmps25
          go_wp2
          go_ret
          exact RetB.mk HE.out.symm
      · have he : inS 2 x = true := by simp [inS]; omega
        have HE := Lib.hid he
        clear he
        go_enter Tryz.func25, Tryz.ntmps25
        go_wp2
        go_ret
        exact RetB.mk HE.out.symm
    · have he : inS 2 x = false := by simp [inS]; omega
      have HE := Lib.hid he
      clear he
      go_enter Tryz.func25, Tryz.ntmps25
      go_wp2
      go_ret
      exact RetB.mk HE.out.symm
  · have he : inS 2 x = false := by simp [inS]; omega
    have HE := Lib.hid he
    clear he
    go_enter Tryz.func25, Tryz.ntmps25
    go_wp2
    go_ret
    exact RetB.mk HE.out.symm
set_option maxHeartbeats 400000 in
theorem Fits2_any (l : List Int) (A : Option Addr) (c : Nat) (ok : Nat → Prop) (w : World) (h : kRune.C w ok A l) : Calls Tryz.prog 12 #[.int .i64 2, .slice A l.length c] w (RetB w (fitsM 2 l)) := by
  have hl := h.1; unfold maxN at hl
  have H := Lib.hid h; clear h
  go_enter Tryz.func12, Tryz.ntmps12
  go_wp2
  go_loop [5] (fun i => ∃ k : Nat, k ≤ l.length ∧ i = .int .i64 k ∧ Hid (fitsM 2 (l.drop k) = fitsM 2 l)) (fun i => l.length - (intOf i).toNat)
  case atStart => exact ⟨0, by omega, rfl, rfl⟩
  case round =>
    obtain ⟨k, hk, rfl, HK⟩ := hrel
    by_cases hlt : k < l.length
    · obtain ⟨b, o, x, rfl, hb, hx, hr, hg, HD⟩ := H.out.rune k hlt
      clear hg
      have HE : Hid (fitsM 2 l = (inS 2 x && fitsM 2 (l.drop (k + 1)))) := by
        rw [← HK.out, HD.out]; rfl
      go_wp2_with (go_at_call 25; refine (In2_any _ _).mono ?_; rintro e w' ⟨rfl, rfl⟩)
      · have hin : (!inS 2 x) = true := by assumption
        rw [Bool.not_eq_true'] at hin
        go_ret
        exact RetB.mk (by rw [HE.out, hin]; rfl)
      · have hin : (!inS 2 x) = false := by assumption
        rw [Bool.not_eq_false'] at hin
        go_round
        case rel => exact ⟨k + 1, by omega, by go_num, by rw [HE.out, hin]; rfl⟩
        case measure => simp [intOf]; omega
    · go_wp2
      go_ret
      obtain rfl : k = l.length := by omega
      exact RetB.mk (by rw [← HK.out, List.drop_length]; rfl)
def TrueG (w : World) (e : Ending) (w' : World) : Prop := e = .returned (.bool true) ∧ w.grownBy w' none
set_option maxHeartbeats 1000000 in
theorem Same02_eq (l : List Int) (A A' : Option Addr) (c c' : Nat) (ok ok' : Nat → Prop) (w : World) (h : kRune.C w ok A l) (h' : kRune.C w ok' A' l) : Calls Tryz.prog 23 #[.slice A l.length c, .slice A' l.length c'] w (TrueG w) := by
  have hl := h.1; unfold maxN at hl
  have H := Lib.hid h; have H' := Lib.hid h'; clear h h'
  go_enter Tryz.func23, Tryz.ntmps23
  go_wp2
  go_loopw [5] (fun i ww => ∃ k : Nat, k ≤ l.length ∧ i = .int .i64 k ∧ ∃ n, ww = w.drewN n) (fun i _ => l.length - (intOf i).toNat)
  case atStart => exact ⟨0, by omega, rfl, 0, rfl⟩
  case round =>
    obtain ⟨k, hk, rfl, n, rfl⟩ := hrel
    by_cases hlt : k < l.length
    · obtain ⟨b, o, x, rfl, hb, hx, hr, hg, HD⟩ := H.out.rune k hlt
      obtain ⟨b', o', x', rfl, hb', hx', hr', hg', HD'⟩ := H'.out.rune k hlt
      have hxx : x' = x := by rw [hg] at hg'; exact (Option.some.inj hg').symm
      subst hxx
      have b1 : (0 : Int) ≤ (k : Int) := by omega
      have b2 : (k : Int) < (l.length : Int) := by omega
      clear hg hg'
      go_wp2
      go_quiet (fail)
      go_wp2
      go_roundw
      case rel => exact ⟨k + 1, by omega, by go_num, _, rfl⟩
      case measure => simp [intOf]; omega
    · go_wp2
      go_ret
      exact ⟨rfl, grown_drewN _ _ _⟩
set_option maxHeartbeats 1000000 in
theorem Same01_eq (l : List Sp) (A A' : Option Addr) (c c' : Nat) (ok ok' : Nat → Prop) (w : World) (h : kSp.C w ok A l) (h' : kSp.C w ok' A' l) : Calls Tryz.prog 30 #[.slice A l.length c, .slice A' l.length c'] w (TrueG w) := by
  have hl := h.1; unfold maxN at hl
  have H := Lib.hid h; have H' := Lib.hid h'; clear h h'
  go_enter Tryz.func30, Tryz.ntmps30
  go_wp2
  go_loopw [5] (fun i ww => ∃ k : Nat, k ≤ l.length ∧ i = .int .i64 k ∧ ∃ n, ww = w.drewN n) (fun i _ => l.length - (intOf i).toNat)
  case atStart => exact ⟨0, by omega, rfl, 0, rfl⟩
  case round =>
    obtain ⟨k, hk, rfl, n, rfl⟩ := hrel
    by_cases hlt : k < l.length
    · obtain ⟨b, o, x, rfl, hb, hx1, hx2, hr1, hr2, hg, HD⟩ := H.out.sp k hlt
      obtain ⟨b', o', x', rfl, hb', hx1', hx2', hr1', hr2', hg', HD'⟩ := H'.out.sp k hlt
      have hxx : x' = x := by rw [hg] at hg'; exact (Option.some.inj hg').symm
      subst hxx
      have b1 : (0 : Int) ≤ (k : Int) := by omega
      have b2 : (k : Int) < (l.length : Int) := by omega
      clear hg hg'
      go_wp2
      go_quiet (fail)
      go_wp2

      go_roundw
      case rel => exact ⟨k + 1, by omega, by go_num, _, rfl⟩
      case measure => simp [intOf]; omega
    · go_wp2
      go_ret
      exact ⟨rfl, grown_drewN _ _ _⟩
/-- Same of two readings of one node without parts -/
def SameC (n : Rc) : Prop := ∀ (N N' : Nat → Prop) u u' w, (∀ k, N k → k < w.heap.size) → (∀ k, N' k → k < w.heap.size) → RcV N n u w → RcV N' n u' w → Calls Tryz.prog 14 #[u, u'] w (TrueG w)
theorem RcV.cells' {N : Nat → Prop} {kind by_ : Int} {set : List Sp} {r wr : List Int} {l : List Rc} {u : Value} {w : World} (h : RcV N (.mk kind set by_ r wr l) u w) :
    ∃ A1 c1 A3 c3 A4 c4 A5 c5, u = .agg #[.int .i64 kind, .slice A1 set.length c1, .int .i64 by_, .slice A3 r.length c3, .slice A4 wr.length c4, .slice A5 l.length c5] ∧ I64 kind ∧ I64 by_ ∧
      (set.length ≤ c1 ∧ kSp.C w N A1 set) ∧ (r.length ≤ c3 ∧ kRune.C w N A3 r) ∧ (wr.length ≤ c4 ∧ kRune.C w N A4 wr) ∧ (l.length ≤ c5 ∧ kRc.C w N A5 l) := by
  obtain ⟨cs, rfl, hK⟩ := h
  obtain ⟨A1, c1, A3, c3, A4, c4, A5, c5, hcs, h⟩ := kRc_iff.1 hK
  exact ⟨A1, c1, A3, c3, A4, c4, A5, c5, by rw [show cs = ⟨cs.toList⟩ from rfl, hcs], h⟩
set_option maxRecDepth 100000 in
set_option maxHeartbeats 2000000 in
theorem Same_leaf (kd by_ : Int) (set : List Sp) (r wt : List Int) : SameC (.mk kd set by_ r wt []) := by
  intro N N' u u' w hN hN' hu hu'
  obtain ⟨A1, c1, A3, c3, A4, c4, A5, c5, rfl, hk, hb, h1, h3, h4, h5⟩ := hu.cells'
  obtain ⟨B1, d1, B3, d3, B4, d4, B5, d5, rfl, _, _, g1, g3, g4, g5⟩ := hu'.cells'
  obtain ⟨W, hW, hb1, hb2, hgW, hWs⟩ := two_new w (.cells #[.int .i64 kd, .slice A1 set.length c1, .int .i64 by_, .slice A3 r.length c3, .slice A4 wt.length c4, .slice A5 0 c5] 26) (.cells #[.int .i64 kd, .slice B1 set.length d1, .int .i64 by_, .slice B3 r.length d3, .slice B4 wt.length d4, .slice B5 0 d5] 26)
  have hNW : ∀ ww, W.grownBy ww none → ∀ k, N k → N k ∧ ww.heap[k]? = w.heap[k]? := fun ww hg k hk => ⟨hk, by have := hN k hk; rw [hg.block k (by omega) (by simp), hgW.block k this (by simp)]⟩
  have hNW' : ∀ ww, W.grownBy ww none → ∀ k, N' k → N' k ∧ ww.heap[k]? = w.heap[k]? := fun ww hg k hk => ⟨hk, by have := hN' k hk; rw [hg.block k (by omega) (by simp), hgW.block k this (by simp)]⟩
  have HNW := Lib.hid hNW; have HNW' := Lib.hid hNW'
  have C1 := Lib.hid h1.2; have C3 := Lib.hid h3.2; have C4 := Lib.hid h4.2
  have D1 := Lib.hid g1.2; have D3 := Lib.hid g3.2; have D4 := Lib.hid g4.2
  have HB1 := Lib.hid hb1; have HB2 := Lib.hid hb2; have HW := Lib.hid hW
  have hs1 : set.length ≤ 140737488355328 := h1.2.1; have hs3 : r.length ≤ 140737488355328 := h3.2.1; have hs4 : wt.length ≤ 140737488355328 := h4.2.1

  clear hu hu' h1 h3 h4 h5 g1 g3 g4 g5 hNW hNW' hb1 hb2 hW hN hN'
  have hgg : W.grownBy W none := World.grownBy.refl _ _
  simp only [List.length_nil]
  have hx0 := (hgg.block w.heap.size (by omega) (by simp)).trans HB1.out
  have hy0 := (hgg.block (w.heap.size + 1) (by omega) (by simp)).trans HB2.out
  have x00 := cells_at hx0 0; have y00 := cells_at hy0 0
  have x01 := cells_at hx0 1; have y01 := cells_at hy0 1
  have x02 := cells_at hx0 2; have y02 := cells_at hy0 2
  have x03 := cells_at hx0 3; have y03 := cells_at hy0 3
  have x04 := cells_at hx0 4; have y04 := cells_at hy0 4
  have x05 := cells_at hx0 5; have y05 := cells_at hy0 5
  simp at x00 y00 x01 y01 x02 y02 x03 y03 x04 y04 x05 y05
  clear hx0 hy0
  go_enter Tryz.func14, Tryz.ntmps14
  go_upto_region 1 with (fail)
  rw [HW.out]
  go_wp2_with fail
  refine (Same01_eq set A1 B1 c1 d1 N N' W (C1.out.step (HNW.out W hgg)) (D1.out.step (HNW'.out W hgg))).mono ?_
  rintro e w1 ⟨rfl, hg1⟩
  clear x00 y00 x01 y01 x02 y02 x03 y03 x04 y04 x05 y05
  have hx1 := (hg1.block w.heap.size (by omega) (by simp)).trans HB1.out
  have hy1 := (hg1.block (w.heap.size + 1) (by omega) (by simp)).trans HB2.out
  have x10 := cells_at hx1 0; have y10 := cells_at hy1 0
  have x11 := cells_at hx1 1; have y11 := cells_at hy1 1
  have x12 := cells_at hx1 2; have y12 := cells_at hy1 2
  have x13 := cells_at hx1 3; have y13 := cells_at hy1 3
  have x14 := cells_at hx1 4; have y14 := cells_at hy1 4
  have x15 := cells_at hx1 5; have y15 := cells_at hy1 5
  simp at x10 y10 x11 y11 x12 y12 x13 y13 x14 y14 x15 y15
  clear hx1 hy1
  go_wp2_with fail
  refine (Same02_eq r A3 B3 c3 d3 N N' w1 (C3.out.step (HNW.out w1 hg1)) (D3.out.step (HNW'.out w1 hg1))).mono ?_
  rintro e w2 ⟨rfl, hg2'⟩
  have hg2 := hg1.trans hg2'
  clear x10 y10 x11 y11 x12 y12 x13 y13 x14 y14 x15 y15
  have hx2 := (hg2.block w.heap.size (by omega) (by simp)).trans HB1.out
  have hy2 := (hg2.block (w.heap.size + 1) (by omega) (by simp)).trans HB2.out
  have x20 := cells_at hx2 0; have y20 := cells_at hy2 0
  have x21 := cells_at hx2 1; have y21 := cells_at hy2 1
  have x22 := cells_at hx2 2; have y22 := cells_at hy2 2
  have x23 := cells_at hx2 3; have y23 := cells_at hy2 3
  have x24 := cells_at hx2 4; have y24 := cells_at hy2 4
  have x25 := cells_at hx2 5; have y25 := cells_at hy2 5
  simp at x20 y20 x21 y21 x22 y22 x23 y23 x24 y24 x25 y25
  clear hx2 hy2
  go_wp2_with fail
  refine (Same02_eq wt A4 B4 c4 d4 N N' w2 (C4.out.step (HNW.out w2 hg2)) (D4.out.step (HNW'.out w2 hg2))).mono ?_
  rintro e w3 ⟨rfl, hg3'⟩
  have hg3 := hg2.trans hg3'
  clear x20 y20 x21 y21 x22 y22 x23 y23 x24 y24 x25 y25
  have hx3 := (hg3.block w.heap.size (by omega) (by simp)).trans HB1.out
  have hy3 := (hg3.block (w.heap.size + 1) (by omega) (by simp)).trans HB2.out
  have x30 := cells_at hx3 0; have y30 := cells_at hy3 0
  have x31 := cells_at hx3 1; have y31 := cells_at hy3 1
  have x32 := cells_at hx3 2; have y32 := cells_at hy3 2
  have x33 := cells_at hx3 3; have y33 := cells_at hy3 3
  have x34 := cells_at hx3 4; have y34 := cells_at hy3 4
  have x35 := cells_at hx3 5; have y35 := cells_at hy3 5
  simp at x30 y30 x31 y31 x32 y32 x33 y33 x34 y34 x35 y35
  clear hx3 hy3
  go_wp2_with fail
  go_loop [5] (fun i => i = .int .i64 0) (fun _ => 0)
  case atStart => rfl
  case round =>
    subst hrel
    go_wp2_with fail
    go_ret
    exact ⟨rfl, hgW.trans hg3⟩
end Go.Proofs.YtocfmjiollafaaaGreatDoor
