import Derived.Test.YtocfmjiollafaaaGreatDoorWrd
namespace Go.Proofs.YtocfmjiollafaaaGreatDoor
open Go.RowKit
set_option linter.unusedVariables false
set_option linter.unusedSimpArgs false
mutual
/-- all letters of a node are scalars, all its classes are of a sort -/
def okN (G : Rc → Prop) : Rc → Prop
  | .mk k s b r w l => (k = 1 ∨ k = 2 → G (.mk k s b r w l)) ∧ (k = 3 → fitsM 2 r = true ∧ fitsM 2 w = true) ∧ okL G l
def okL (G : Rc → Prop) : List Rc → Prop
  | [] => True
  | x :: l => okN G x ∧ okL G l
end
theorem okL_mem {G : Rc → Prop} : ∀ {l : List Rc}, okL G l → ∀ x ∈ l, okN G x
  | [], _, x, hx => by simp at hx
  | y :: l, h, x, hx => by
    rw [okL] at h
    rcases List.mem_cons.1 hx with rfl | hx
    · exact h.1
    · exact okL_mem h.2 x hx
theorem core_eq (k : Int) (s : List Sp) (b : Int) (r wt : List Int) (l : List Rc) (h1 : k ≠ 1) (h2 : k ≠ 2) (h3 : k ≠ 3) (h6 : k ≠ 6) : core k s b r wt l = listT k l := by
  rw [core, if_neg (by omega), if_neg h3, if_neg h6]; rfl
/-- the contract of the class' writer -/
def ClsC (wb : Nat) (G : Rc → Prop) : Prop := ∀ n, G n → (n.kind = 1 ∨ n.kind = 2) → ∀ ws v w u, WS wb ws v w → RcV (nW wb v w) n u w → ws.length + (classT n).length ≤ 65536 → Calls Tryz.prog 37 #[.pointer (some ⟨wb, 0, none⟩), u] w (WSPost wb ws (classT n) v w)
theorem bare0 (n : Rc) : bareB n 0 = true := by
  unfold bareB; split
  · rfl
  · split
    · rfl
    · split <;> rfl
set_option maxRecDepth 100000 in
set_option maxHeartbeats 4000000 in
theorem node_bare {wb : Nat} {G : Rc → Prop} (HCl : ClsC wb G) (k : Int) (s : List Sp) (b : Int) (r wt : List Int) (l : List Rc) (sa : Int) (hsa : 0 ≤ sa ∧ sa ≤ 3) (hok : okN G (.mk k s b r wt l)) (hbare : bareB (.mk k s b r wt l) sa = true)
    (HN : ∀ x ∈ l, ∀ sa, 0 ≤ sa ∧ sa ≤ 3 → NodeC wb x sa) : NodeC wb (.mk k s b r wt l) sa := by
  intro ws v w u h hu hl
  have hT : txt (.mk k s b r wt l) sa = core k s b r wt l := by rw [txt, if_pos hbare]
  rw [hT] at hl
  have HT := Lib.hid hT
  obtain ⟨Av, cv, rfl, hcv, hCv⟩ := h.wr.2.reads (by unfold maxN; omega)
  obtain ⟨A1, c1, A3, c3, A4, c4, A5, c5, rfl, hk, hb, h1, h3, h4, h5⟩ := hu.cells
  obtain ⟨W, hW, hb2, hgW, hWs⟩ := one_new w (.cells #[.int .i64 k, .slice A1 s.length c1, .int .i64 b, .slice A3 r.length c3, .slice A4 wt.length c4, .slice A5 l.length c5] 26)
  have hwb := h.size
  have hHW := h.kept hgW
  have hw0 := cells_at hHW.wr.1 0
  simp at hw0
  have H := Lib.hid hHW
  have hnw : ∀ j, nW wb (.slice Av ws.length cv) w j → nW wb (.slice Av ws.length cv) W j ∧ W.heap[j]? = w.heap[j]? := (WGo.grown hgW).step
  have HU := Lib.hid (RcV.stp hnw hu)
  have C5W := Lib.hid (h5.2.step hnw)
  have hlen : l.length ≤ 140737488355328 := h5.2.1
  have hl5 := h5.1
  have hnb : nW wb (.slice Av ws.length cv) W w.heap.size := ⟨by omega, by omega, fun e => by have := (h.wr.2.base _ e.symm).2; omega⟩
  have hgo0 : WGo wb (.slice Av ws.length cv) w (.slice Av ws.length cv) W := WGo.grown hgW
  have B2 := Lib.hid hb2
  have k0 := cells_at hb2 0; have k1 := cells_at hb2 1; have k2 := cells_at hb2 2; have k3 := cells_at hb2 3; have k4 := cells_at hb2 4; have k5 := cells_at hb2 5
  simp at k0 k1 k2 k3 k4 k5
  have HNN := Lib.hid HN; have HOK := Lib.hid hok; have HB := Lib.hid hbare; have HCC := Lib.hid HCl
  have hwl : ws.length ≤ 65536 := by omega
  have hbr := bare_any (n := .mk k s b r wt l) sa hsa HU.out
  have HBR := Lib.hid hbr
  clear h hu h1 h3 h4 h5 hb2 hnw hT hHW hCv HN hok hbare HCl hbr
  go_enter Tryz.func19, Tryz.ntmps19
  go_wp2_with fail
  refine HBR.out.mono ?_
  rintro e w1 ⟨rfl, hg1⟩
  rw [HB.out]
  have hgo1 : WGo wb (.slice Av ws.length cv) W (.slice Av ws.length cv) w1 := WGo.grown hg1
  have H1 := Lib.hid (H.out.kept hg1)
  have HU1 := Lib.hid (RcV.stp hgo1.step HU.out)
  have hb1 := (hgo1.step w.heap.size hnb).2.trans B2.out
  have C5 := Lib.hid (C5W.out.step hgo1.step)
  clear k0 k1 k2 k3 k4 k5 hw0 hW
  have k0 := cells_at hb1 0; have k1 := cells_at hb1 1; have k2 := cells_at hb1 2; have k3 := cells_at hb1 3; have k4 := cells_at hb1 4; have k5 := cells_at hb1 5
  simp at k0 k1 k2 k3 k4 k5
  have B1 := Lib.hid hb1
  clear hb1
  by_cases e12 : k = 1 ∨ k = 2
  · have hco : core k s b r wt l = classT (.mk k s b r wt l) := by rw [core, if_pos e12]
    have HCO := Lib.hid hco
    rw [hco] at hl
    have hok := HOK.out
    rw [okN] at hok
    have hcl := HCC.out _ (hok.1 e12) e12 ws _ w1 _ H1.out HU1.out hl
    have HCL := Lib.hid hcl
    have hcs : (k == 1) = true ∨ ((k == 1) = false ∧ (k == 2) = true) := by simp; omega
    clear hco hcl hok e12
    rcases hcs with b1 | ⟨b1, b2⟩
    all_goals
      go_wp2_with (go_at_call 37; refine HCL.out.mono ?_; rintro e w' ⟨v', rfl, hw, hgo⟩)
      go_end0
      rw [HT.out, HCO.out]
      exact ⟨v', rfl, hw, hgo0.trans (hgo1.trans hgo)⟩
  have b1 : (k == 1) = false := by simp; omega
  have b2 : (k == 2) = false := by simp; omega
  by_cases e3 : k = 3
  · have hco : core k s b r wt l = pairT r wt := by rw [core, if_neg e12, if_pos e3]
    have HCO := Lib.hid hco
    rw [hco] at hl
    have hok := HOK.out
    rw [okN] at hok
    have hf := hok.2.1 e3
    have hcl := pair_any H1.out HU1.out hf.1 hf.2 hl
    have HCL := Lib.hid hcl
    have b3 : (k == 3) = true := by simp [e3]
    clear hco hcl hok e12 e3 hf
    go_wp2_with (go_at_call 38; refine HCL.out.mono ?_; rintro e w' ⟨v', rfl, hw, hgo⟩)
    go_end0
    rw [HT.out, HCO.out]
    exact ⟨v', rfl, hw, hgo0.trans (hgo1.trans hgo)⟩
  have b3 : (k == 3) = false := by simpa using e3
  by_cases e6 : k = 6
  · have b6 : (k == 6) = true := by simp [e6]
    by_cases el : l.length = 1
    · obtain ⟨x, hx⟩ := List.length_eq_one_iff.1 el
      have hco : core k s b r wt l = txt x 3 ++ [42] := by rw [core, if_neg e12, if_neg e3, if_pos e6, if_pos el, hx, headT]
      have HCO := Lib.hid hco
      rw [hco] at hl
      simp only [List.length_append, List.length_cons, List.length_nil] at hl
      have bl1 : ((l.length : Int) == 1) = true := by simp [el]
      have bl : (0 : Int) < (l.length : Int) := by omega
      obtain ⟨b', o, y, kd', set', B1', d1, by', r', B3, d3, wt', B4, d4, xl', B5, d5, hA, hnb', hd', hmem', hye, hV', y0, y1, y2, y3, y4, y5⟩ := C5.out.rce 0 (by omega)
      subst hA
      have hxy : y = x := by rw [hx] at hmem'; simpa using hmem'
      simp only [Nat.zero_mul, Nat.add_zero] at y0 y1 y2 y3 y4 y5
      have hnode := HNN.out x (by rw [hx]; simp) 3 (by decide) ws _ w1 _ H1.out (by rw [← hxy, hye]; exact hV') (by omega)
      have HND := Lib.hid hnode
      clear hnode hV' hxy hmem' hd' hye hco e12 e3 e6 el hx
      go_wp2_with fail
      refine HND.out.mono ?_
      rintro e w6 ⟨v6, rfl, hw6, hgo6⟩
      have HW6 := Lib.hid hw6; have G6 := Lib.hid hgo6
      clear hw6 hgo6 y0 y1 y2 y3 y4 y5
      go_wp2_with fail
      refine (put_s _ [42] rfl HW6.out (by decide) (by simp only [List.length_append, List.length_cons, List.length_nil]; omega)).mono ?_
      rintro e w7 ⟨v7, rfl, hw7, hgo7⟩
      have HW7 := Lib.hid hw7; have G7 := Lib.hid hgo7
      clear hw7 hgo7
      go_wp2_with fail
      go_end0
      rw [HT.out, HCO.out]
      exact ⟨v7, rfl, by simpa only [List.append_assoc] using HW7.out, hgo0.trans (hgo1.trans (G6.out.trans G7.out))⟩
    · have hco : core k s b r wt l = [40] ++ itemsT l ++ [41] ++ [42] := by rw [core, if_neg e12, if_neg e3, if_pos e6, if_neg el]
      have HCO := Lib.hid hco
      rw [hco] at hl
      simp only [List.length_append, List.length_cons, List.length_nil] at hl
      have bl1 : ((l.length : Int) == 1) = false := by simp; omega
      clear hco e12 e3 e6 el
      go_wp2_with fail
      refine (put_s _ [40] rfl H1.out (by decide) (by omega)).mono ?_
      rintro e w5 ⟨v5, rfl, hw5, hgo5⟩
      have hbx := ((hgo1.trans hgo5).step w.heap.size hnb).2.trans B2.out
      have z5 := cells_at hbx 5
      simp at z5
      have hit := items_any (fun x hx => HNN.out x hx 2 (by decide)) hw5 hl5 (C5.out.step hgo5.step) (by simp only [List.length_append, List.length_cons, List.length_nil]; omega)
      have HIT := Lib.hid hit; have G5 := Lib.hid hgo5
      clear hit hw5 hgo5 hbx k0 k1 k2 k3 k4 k5
      go_wp2_with fail
      refine HIT.out.mono ?_
      rintro e w6 ⟨v6, rfl, hw6, hgo6⟩
      have HW6 := Lib.hid hw6; have G6 := Lib.hid hgo6
      clear hw6 hgo6 z5
      go_wp2_with fail
      refine (put_s _ [41] rfl HW6.out (by decide) (by simp only [List.length_append, List.length_cons, List.length_nil]; omega)).mono ?_
      rintro e w7 ⟨v7, rfl, hw7, hgo7⟩
      have HW7 := Lib.hid hw7; have G7 := Lib.hid hgo7
      clear hw7 hgo7
      go_wp2_with fail
      refine (put_s _ [42] rfl HW7.out (by decide) (by simp only [List.length_append, List.length_cons, List.length_nil]; omega)).mono ?_
      rintro e w8 ⟨v8, rfl, hw8, hgo8⟩
      have HW8 := Lib.hid hw8; have G8 := Lib.hid hgo8
      clear hw8 hgo8
      go_wp2_with fail
      go_end0
      rw [HT.out, HCO.out]
      exact ⟨v8, rfl, by simpa only [List.append_assoc] using HW8.out, hgo0.trans (hgo1.trans (G5.out.trans (G6.out.trans (G7.out.trans G8.out))))⟩
  have b6 : (k == 6) = false := by simpa using e6
  have hco := core_eq k s b r wt l (by omega) (by omega) e3 e6
  have HCO := Lib.hid hco
  rw [hco] at hl
  have hls := list_any HNN.out H1.out HU1.out hl
  have HLS := Lib.hid hls
  clear hco hls e12 e3 e6
  go_wp2_with (go_at_call 40; refine HLS.out.mono ?_; rintro e w' ⟨v', rfl, hw, hgo⟩)
  go_end0
  rw [HT.out, HCO.out]
  exact ⟨v', rfl, hw, hgo0.trans (hgo1.trans hgo)⟩
set_option maxRecDepth 100000 in
set_option maxHeartbeats 2000000 in
theorem node_brk {wb : Nat} (n : Rc) (sa : Int) (hsa : 0 ≤ sa ∧ sa ≤ 3) (hbare : bareB n sa = false) (HN0 : NodeC wb n 0) : NodeC wb n sa := by
  intro ws v w u h hu hl
  obtain ⟨k, s, b, r, wt, l⟩ := n
  have hT : txt (.mk k s b r wt l) sa = [40] ++ txt (.mk k s b r wt l) 0 ++ [41] := by rw [txt, if_neg (by rw [hbare]; decide), txt, if_pos (bare0 _)]
  rw [hT] at hl
  simp only [List.length_append, List.length_cons, List.length_nil] at hl
  have HT := Lib.hid hT
  obtain ⟨Av, cv, rfl, hcv, hCv⟩ := h.wr.2.reads (by unfold maxN; omega)
  obtain ⟨A1, c1, A3, c3, A4, c4, A5, c5, rfl, hk, hb, h1, h3, h4, h5⟩ := hu.cells
  obtain ⟨W, hW, hb2, hgW, hWs⟩ := one_new w (.cells #[.int .i64 k, .slice A1 s.length c1, .int .i64 b, .slice A3 r.length c3, .slice A4 wt.length c4, .slice A5 l.length c5] 26)
  have hwb := h.size
  have hHW := h.kept hgW
  have hw0 := cells_at hHW.wr.1 0
  simp at hw0
  have H := Lib.hid hHW
  have hnw : ∀ j, nW wb (.slice Av ws.length cv) w j → nW wb (.slice Av ws.length cv) W j ∧ W.heap[j]? = w.heap[j]? := (WGo.grown hgW).step
  have HU := Lib.hid (RcV.stp hnw hu)
  have hnb : nW wb (.slice Av ws.length cv) W w.heap.size := ⟨by omega, by omega, fun e => by have := (h.wr.2.base _ e.symm).2; omega⟩
  have hgo0 : WGo wb (.slice Av ws.length cv) w (.slice Av ws.length cv) W := WGo.grown hgW
  have B2 := Lib.hid hb2
  have k0 := cells_at hb2 0; have k1 := cells_at hb2 1; have k2 := cells_at hb2 2; have k3 := cells_at hb2 3; have k4 := cells_at hb2 4; have k5 := cells_at hb2 5
  simp at k0 k1 k2 k3 k4 k5
  have HNN := Lib.hid HN0; have HB := Lib.hid hbare
  have hwl : ws.length ≤ 65536 := by omega
  have hbr := bare_any (n := .mk k s b r wt l) sa hsa HU.out
  have HBR := Lib.hid hbr
  clear h hu h1 h3 h4 h5 hb2 hnw hT hHW hCv HN0 hbare hbr
  go_enter Tryz.func19, Tryz.ntmps19
  go_wp2_with fail
  refine HBR.out.mono ?_
  rintro e w1 ⟨rfl, hg1⟩
  rw [HB.out]
  have hgo1 : WGo wb (.slice Av ws.length cv) W (.slice Av ws.length cv) w1 := WGo.grown hg1
  have H1 := Lib.hid (H.out.kept hg1)
  have HU1 := Lib.hid (RcV.stp hgo1.step HU.out)
  have hb1 := hgo1.step w.heap.size hnb
  have B1 := Lib.hid (hb1.2.trans B2.out)
  have hnb1 := hb1.1
  clear k0 k1 k2 k3 k4 k5 hw0 hW hb1
  go_wp2_with fail
  refine (put_s _ [40] rfl H1.out (by decide) (by omega)).mono ?_
  rintro e w5 ⟨v5, rfl, hw5, hgo5⟩
  have hbx := (hgo5.step w.heap.size hnb1).2.trans B1.out
  have k0 := cells_at hbx 0; have k1 := cells_at hbx 1; have k2 := cells_at hbx 2; have k3 := cells_at hbx 3; have k4 := cells_at hbx 4; have k5 := cells_at hbx 5
  simp at k0 k1 k2 k3 k4 k5
  have hnode := HNN.out (ws ++ [40]) v5 w5 _ hw5 (RcV.stp hgo5.step HU1.out) (by simp only [List.length_append, List.length_cons, List.length_nil]; omega)
  have HND := Lib.hid hnode; have G5 := Lib.hid hgo5
  clear hnode hw5 hgo5 hbx
  go_wp2_with fail
  refine HND.out.mono ?_
  rintro e w6 ⟨v6, rfl, hw6, hgo6⟩
  have HW6 := Lib.hid hw6; have G6 := Lib.hid hgo6
  clear hw6 hgo6 k0 k1 k2 k3 k4 k5
  go_wp2_with fail
  refine (put_s _ [41] rfl HW6.out (by decide) (by simp only [List.length_append, List.length_cons, List.length_nil]; omega)).mono ?_
  rintro e w7 ⟨v7, rfl, hw7, hgo7⟩
  have HW7 := Lib.hid hw7; have G7 := Lib.hid hgo7
  clear hw7 hgo7
  go_wp2_with fail
  go_end0
  rw [HT.out]
  exact ⟨v7, rfl, by simpa only [List.append_assoc] using HW7.out, hgo0.trans (hgo1.trans (G5.out.trans (G6.out.trans G7.out)))⟩
theorem node_any {wb : Nat} {G : Rc → Prop} (HCl : ClsC wb G) : ∀ (m : Nat) (n : Rc) (sa : Int), SizeOf.sizeOf n ≤ m → okN G n → 0 ≤ sa ∧ sa ≤ 3 → NodeC wb n sa
  | 0, n, sa, hm, _, _ => by cases n; simp at hm
  | m + 1, n, sa, hm, hok, hsa => by
    obtain ⟨k, s, b, r, wt, l⟩ := n
    have HN : ∀ x ∈ l, ∀ sa, 0 ≤ sa ∧ sa ≤ 3 → NodeC wb x sa := fun x hx sa' hs => by
      have hlt := List.sizeOf_lt_of_mem hx
      simp at hm
      refine node_any HCl m x sa' (by omega) ?_ hs
      rw [okN] at hok
      exact okL_mem hok.2.2 x hx
    by_cases hb : bareB (.mk k s b r wt l) sa = true
    · exact node_bare HCl k s b r wt l sa hsa hok hb HN
    · exact node_brk _ sa hsa (by simpa using hb) (node_bare HCl k s b r wt l 0 (by decide) hok (bare0 _) HN)
end Go.Proofs.YtocfmjiollafaaaGreatDoor
