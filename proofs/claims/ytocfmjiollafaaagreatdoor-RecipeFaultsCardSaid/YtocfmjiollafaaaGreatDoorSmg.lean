import Derived.Test.YtocfmjiollafaaaGreatDoorSam
import Derived.Test.YtocfmjiollafaaaGreatDoorWri
import Derived.StillTailTactics
namespace Go.Proofs.YtocfmjiollafaaaGreatDoor
open Go.RowKit
set_option linter.unusedVariables false
set_option linter.unusedSimpArgs false
set_option maxRecDepth 100000 in
set_option maxHeartbeats 8000000 in
theorem Same_step (kd by_ : Int) (set : List Sp) (r wt : List Int) (l : List Rc) (HN : ∀ x ∈ l, SameC x) : SameC (.mk kd set by_ r wt l) := by
  intro N N' u u' w hN hN' hu hu'
  obtain ⟨A1, c1, A3, c3, A4, c4, A5, c5, rfl, hk, hb, h1, h3, h4, h5⟩ := hu.cells'
  obtain ⟨B1, d1, B3, d3, B4, d4, B5, d5, rfl, _, _, g1, g3, g4, g5⟩ := hu'.cells'
  obtain ⟨W, hW, hb1, hb2, hgW, hWs⟩ := two_new w (.cells #[.int .i64 kd, .slice A1 set.length c1, .int .i64 by_, .slice A3 r.length c3, .slice A4 wt.length c4, .slice A5 l.length c5] 26) (.cells #[.int .i64 kd, .slice B1 set.length d1, .int .i64 by_, .slice B3 r.length d3, .slice B4 wt.length d4, .slice B5 l.length d5] 26)
  have hNW : ∀ ww, W.grownBy ww none → ∀ k, N k → N k ∧ ww.heap[k]? = w.heap[k]? := fun ww hg k hk => ⟨hk, by have := hN k hk; rw [hg.block k (by omega) (by simp), hgW.block k this (by simp)]⟩
  have hNW' : ∀ ww, W.grownBy ww none → ∀ k, N' k → N' k ∧ ww.heap[k]? = w.heap[k]? := fun ww hg k hk => ⟨hk, by have := hN' k hk; rw [hg.block k (by omega) (by simp), hgW.block k this (by simp)]⟩
  have HNW := Lib.hid hNW; have HNW' := Lib.hid hNW'
  have C1 := Lib.hid h1.2; have C3 := Lib.hid h3.2; have C4 := Lib.hid h4.2
  have D1 := Lib.hid g1.2; have D3 := Lib.hid g3.2; have D4 := Lib.hid g4.2
  have C5 := Lib.hid h5.2; have D5 := Lib.hid g5.2
  have hl5 := h5.1; have hm5 := g5.1
  have hs5 : l.length ≤ 140737488355328 := h5.2.1
  have HB1 := Lib.hid hb1; have HB2 := Lib.hid hb2; have HW := Lib.hid hW; have HNN := Lib.hid HN; have HNk := Lib.hid hN; have HNk' := Lib.hid hN'
  have hs1 : set.length ≤ 140737488355328 := h1.2.1; have hs3 : r.length ≤ 140737488355328 := h3.2.1; have hs4 : wt.length ≤ 140737488355328 := h4.2.1

  clear hu hu' h1 h3 h4 h5 g1 g3 g4 g5 hNW hNW' hb1 hb2 hW hN hN' HN
  have hgg : W.grownBy W none := World.grownBy.refl _ _
  have hx0 := (hgg.block w.heap.size (by omega) (by simp)).trans HB1.out
  have hy0 := (hgg.block (w.heap.size + 1) (by omega) (by simp)).trans HB2.out
  have x00 := cells_at hx0 0; have y00 := cells_at hy0 0
  have x01 := cells_at hx0 1; have y01 := cells_at hy0 1
  have x02 := cells_at hx0 2; have y02 := cells_at hy0 2
  have x03 := cells_at hx0 3; have y03 := cells_at hy0 3
  have x04 := cells_at hx0 4; have y04 := cells_at hy0 4
  have x05 := cells_at hx0 5; have y05 := cells_at hy0 5
  simp at x00 y00 x01 y01 x02 y02 x03 y03 x04 y04 x05 y05
  clear hx0 hy0
  go_enter Tryz.func14, Tryz.ntmps14
  go_upto_region 1 with (fail)
  rw [HW.out]
  go_wp2_with fail
  refine (Same01_eq set A1 B1 c1 d1 N N' W (C1.out.step (HNW.out W hgg)) (D1.out.step (HNW'.out W hgg))).mono ?_
  rintro e w1 ⟨rfl, hg1⟩
  clear x00 y00 x01 y01 x02 y02 x03 y03 x04 y04 x05 y05
  have hx1 := (hg1.block w.heap.size (by omega) (by simp)).trans HB1.out
  have hy1 := (hg1.block (w.heap.size + 1) (by omega) (by simp)).trans HB2.out
  have x10 := cells_at hx1 0; have y10 := cells_at hy1 0
  have x11 := cells_at hx1 1; have y11 := cells_at hy1 1
  have x12 := cells_at hx1 2; have y12 := cells_at hy1 2
  have x13 := cells_at hx1 3; have y13 := cells_at hy1 3
  have x14 := cells_at hx1 4; have y14 := cells_at hy1 4
  have x15 := cells_at hx1 5; have y15 := cells_at hy1 5
  simp at x10 y10 x11 y11 x12 y12 x13 y13 x14 y14 x15 y15
  clear hx1 hy1
  go_wp2_with fail
  refine (Same02_eq r A3 B3 c3 d3 N N' w1 (C3.out.step (HNW.out w1 hg1)) (D3.out.step (HNW'.out w1 hg1))).mono ?_
  rintro e w2 ⟨rfl, hg2'⟩
  have hg2 := hg1.trans hg2'
  clear x10 y10 x11 y11 x12 y12 x13 y13 x14 y14 x15 y15
  have hx2 := (hg2.block w.heap.size (by omega) (by simp)).trans HB1.out
  have hy2 := (hg2.block (w.heap.size + 1) (by omega) (by simp)).trans HB2.out
  have x20 := cells_at hx2 0; have y20 := cells_at hy2 0
  have x21 := cells_at hx2 1; have y21 := cells_at hy2 1
  have x22 := cells_at hx2 2; have y22 := cells_at hy2 2
  have x23 := cells_at hx2 3; have y23 := cells_at hy2 3
  have x24 := cells_at hx2 4; have y24 := cells_at hy2 4
  have x25 := cells_at hx2 5; have y25 := cells_at hy2 5
  simp at x20 y20 x21 y21 x22 y22 x23 y23 x24 y24 x25 y25
  clear hx2 hy2
  go_wp2_with fail
  refine (Same02_eq wt A4 B4 c4 d4 N N' w2 (C4.out.step (HNW.out w2 hg2)) (D4.out.step (HNW'.out w2 hg2))).mono ?_
  rintro e w3 ⟨rfl, hg3'⟩
  have hg3 := hg2.trans hg3'
  clear x20 y20 x21 y21 x22 y22 x23 y23 x24 y24 x25 y25
  have hx3 := (hg3.block w.heap.size (by omega) (by simp)).trans HB1.out
  have hy3 := (hg3.block (w.heap.size + 1) (by omega) (by simp)).trans HB2.out
  have x30 := cells_at hx3 0; have y30 := cells_at hy3 0
  have x31 := cells_at hx3 1; have y31 := cells_at hy3 1
  have x32 := cells_at hx3 2; have y32 := cells_at hy3 2
  have x33 := cells_at hx3 3; have y33 := cells_at hy3 3
  have x34 := cells_at hx3 4; have y34 := cells_at hy3 4
  have x35 := cells_at hx3 5; have y35 := cells_at hy3 5
  simp at x30 y30 x31 y31 x32 y32 x33 y33 x34 y34 x35 y35
  clear hx3 hy3
  go_wp2_with fail
  clear x30 y30 x31 y31 x32 y32 x33 y33 x34 y34 x35 y35
  go_loopw [5] (fun i ww => ∃ k : Nat, k ≤ l.length ∧ i = .int .i64 k ∧ W.grownBy ww none) (fun i _ => l.length - (intOf i).toNat)
  case atStart => exact ⟨0, Nat.zero_le _, rfl, hg3⟩
  case round =>
    obtain ⟨k, hk', rfl, hg⟩ := hrel
    have hx := (hg.block w.heap.size (by omega) (by simp)).trans HB1.out
    have hy := (hg.block (w.heap.size + 1) (by omega) (by simp)).trans HB2.out
    have x5 := cells_at hx 5; have y5 := cells_at hy 5
    simp at x5 y5
    by_cases hlt : k < l.length
    · obtain ⟨b', o', x, kd', set', E1, e1, by', r', E3, e3, wt', E4, e4, xl', E5, e5, rfl, hnb', hd', hmem, hxe, hV, z0, z1, z2, z3, z4, z5⟩ := (C5.out.step (HNW.out _ hg)).rce k hlt
      obtain ⟨b2, o2, x2, kd2, set2, F1, f1, by2, r2, F3, f3, wt2, F4, f4, xl2, F5, f5, rfl, hnb2, hd2, hmem2, hxe2, hV2, v0, v1, v2, v3, v4, v5⟩ := (D5.out.step (HNW'.out _ hg)).rce k hlt
      have hxx : x2 = x := by rw [hd'] at hd2; injection hd2 with h1 h2; exact h1.symm
      have hsz := hg.size
      have hsm := HNN.out x hmem N N' _ _ (wr.drew) (fun j hj => by have := HNk.out j hj; show j < wr.heap.size; omega) (fun j hj => by have := HNk'.out j hj; show j < wr.heap.size; omega) (by rw [hxe]; exact RcV.stp (w := wr) (fun j hj => ⟨hj, rfl⟩) hV) (by rw [← hxx, hxe2]; exact RcV.stp (w := wr) (fun j hj => ⟨hj, rfl⟩) hV2)
      have HSM := Lib.hid hsm
      have b1 : (0 : Int) ≤ (k : Int) := by omega
      have b2' : (k : Int) < (l.length : Int) := by omega
      clear hd' hmem hxe hV hd2 hmem2 hxe2 hV2 hxx hsm hx hy
      go_wp2_with fail
      go_still_tail 10, (by kernel_rfl)
      change wpList _ _ _ _ _ wr.drew
      obtain ⟨wd, hwd⟩ : ∃ wd, wd = wr.drew := ⟨_, rfl⟩
      have hgd : W.grownBy wd none := by rw [hwd]; exact grown_drew hg
      rw [← hwd] at HSM ⊢
      clear hwd
      go_wp2_with (go_at_call 14; refine HSM.out.mono ?_; rintro e w' ⟨rfl, hg4⟩)
      go_roundw
      case rel => exact ⟨k + 1, by omega, by go_num, hgd.trans hg4⟩
      case measure => simp [intOf]; omega
    · go_wp2_with fail
      go_ret
      exact ⟨rfl, hgW.trans hg⟩
/-- the reference tells two readings of one node alike -/
theorem Same_any : ∀ (m : Nat) (n : Rc), SizeOf.sizeOf n ≤ m → SameC n
  | 0, n, hm => by cases n; simp at hm
  | m + 1, n, hm => by
    obtain ⟨k, s, b, r, wt, l⟩ := n
    refine Same_step k b s r wt l fun x hx => ?_
    have hlt := List.sizeOf_lt_of_mem hx
    simp at hm
    exact Same_any m x (by omega)
end Go.Proofs.YtocfmjiollafaaaGreatDoor
