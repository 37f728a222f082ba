import Derived.Test.YtocfmjiollafaaaGreatDoorWri
namespace Go.Proofs.YtocfmjiollafaaaGreatDoor
open Go.RowKit
set_option linter.unusedVariables false
set_option linter.unusedSimpArgs false
def listT (k : Int) (l : List Rc) : List Int := if l.length = 1 then [40] ++ headT l 0 ++ [41] else if k = 4 then itemsT l else if l.length = 0 then [91, 93] else altsT l true
set_option maxRecDepth 100000 in
set_option maxHeartbeats 4000000 in
theorem list_any {wb : Nat} {ws : List Int} {v : Value} {w : World} {kd by_ : Int} {set : List Sp} {r wt : List Int} {l : List Rc} {u : Value} (HN : ∀ x ∈ l, ∀ sa, 0 ≤ sa ∧ sa ≤ 3 → NodeC wb x sa) (h : WS wb ws v w) (hu : RcV (nW wb v w) (.mk kd set by_ r wt l) u w)
    (hl : ws.length + (listT kd l).length ≤ 65536) : Calls Tryz.prog 40 #[.pointer (some ⟨wb, 0, none⟩), u] w (WSPost wb ws (listT kd l) v w) := by
  obtain ⟨A1, c1, A3, c3, A4, c4, A5, c5, rfl, hk, hb, h1, h3, h4, h5⟩ := hu.cells
  obtain ⟨W, hW, hb2, hgW, hWs⟩ := one_new w (.cells #[.int .i64 kd, .slice A1 set.length c1, .int .i64 by_, .slice A3 r.length c3, .slice A4 wt.length c4, .slice A5 l.length c5] 26)
  have H := Lib.hid (h.kept hgW)
  have HW := Lib.hid hW
  have hwb := h.size
  have hnw : ∀ k, nW wb v w k → nW wb v W k ∧ W.heap[k]? = w.heap[k]? := (WGo.grown hgW).step
  have C5 := Lib.hid (h5.2.step hnw)
  have hl5 := h5.1
  have hlen : l.length ≤ 140737488355328 := h5.2.1
  have B2 := Lib.hid hb2
  have hnb : nW wb v W w.heap.size := ⟨by omega, by omega, fun e => by have := (h.wr.2.base _ e.symm).2; omega⟩
  have hgo0 : WGo wb v w v W := WGo.grown hgW
  have hbx := fun v' ww (g : WGo wb v W v' ww) => (g.step w.heap.size hnb).2.trans B2.out
  have HX := Lib.hid hbx
  have k0 := cells_at hb2 0; have k5 := cells_at hb2 5
  simp at k0 k5
  have HNN := Lib.hid HN
  clear h h1 h3 h4 h5 hu hb2 hW hnw hbx HN
  by_cases e1 : l.length = 1
  · have hT : listT kd l = [40] ++ headT l 0 ++ [41] := by unfold listT; rw [if_pos e1]
    obtain ⟨x, hx⟩ := List.length_eq_one_iff.1 e1
    have hT2 : listT kd l = [40] ++ txt x 0 ++ [41] := by rw [hT, hx, headT]
    rw [hT2] at hl
    simp only [List.length_append, List.length_cons, List.length_nil] at hl
    have b1 : ((l.length : Int) == 1) = true := by simp [e1]
    have bl : (0 : Int) < (l.length : Int) := by omega
    have HT := Lib.hid hT2
    have HNX := Lib.hid (HNN.out x (by rw [hx]; simp) 0 (by decide))
    have HLX := Lib.hid hx; have E1 := Lib.hid e1
    clear hT hT2 hx e1
    go_enter Tryz.func40, Tryz.ntmps40
    go_wp2_with fail
    rw [HW.out]
    refine (put_s _ [40] rfl H.out (by decide) (by omega)).mono ?_
    rintro e w2 ⟨v2, rfl, hw2, hgo2⟩
    have b2 := HX.out v2 w2 hgo2
    obtain ⟨b, o, y, kd', set', B1, d1, by', r', B3, d3, wt', B4, d4, xl', B5, d5, hA, hnb', hd', hmem', hye, hV', y0, y1, y2, y3, y4, y5⟩ := (C5.out.step hgo2.step).rce 0 (by omega)
    subst hA
    have hxy : y = x := by rw [HLX.out] at hmem'; simpa using hmem'
    have q5 := cells_at b2 5
    simp at q5
    simp only [Nat.zero_mul, Nat.add_zero] at y0 y1 y2 y3 y4 y5
    have hnode := HNX.out (ws ++ [40]) v2 w2 _ hw2 (by rw [← hxy, hye]; exact hV') (by simp only [List.length_append, List.length_cons, List.length_nil]; omega)
    have HND := Lib.hid hnode; have G2 := Lib.hid hgo2
    clear hnode hV' hxy hmem' hd' hye hw2 hgo2 b2 k0 k5
    go_wp2_with fail
    refine HND.out.mono ?_
    rintro e w6 ⟨v6, rfl, hw6, hgo6⟩
    have HW6 := Lib.hid hw6; have G6 := Lib.hid hgo6
    clear hw6 hgo6 y0 y1 y2 y3 y4 y5 q5
    go_wp2_with fail
    refine (put_s _ [41] rfl HW6.out (by decide) (by simp only [List.length_append, List.length_cons, List.length_nil]; omega)).mono ?_
    rintro e w7 ⟨v7, rfl, hw7, hgo7⟩
    have HW7 := Lib.hid hw7; have G7 := Lib.hid hgo7
    clear hw7 hgo7
    go_wp2_with fail
    go_end0
    rw [HT.out]
    exact ⟨v7, rfl, by simpa only [List.append_assoc] using HW7.out, hgo0.trans (G2.out.trans (G6.out.trans G7.out))⟩
  have b1 : ((l.length : Int) == 1) = false := by simp; omega
  by_cases e4 : kd = 4
  · have hT : listT kd l = itemsT l := by unfold listT; rw [if_neg e1, if_pos e4]
    rw [hT] at hl
    have b4 : (kd == 4) = true := by simp [e4]
    have HT := Lib.hid hT
    have hit := items_any (fun x hx => HNN.out x hx 2 (by decide)) H.out hl5 C5.out hl
    have HIT := Lib.hid hit
    clear hit hT e1 e4
    go_enter Tryz.func40, Tryz.ntmps40
    go_wp2_with fail
    rw [HW.out]
    refine HIT.out.mono ?_
    rintro e w2 ⟨v2, rfl, hw2, hgo2⟩
    go_wp2_with fail
    go_end0
    rw [HT.out]
    exact ⟨v2, rfl, hw2, hgo0.trans hgo2⟩
  have b4 : (kd == 4) = false := by simpa using e4
  by_cases e0 : l.length = 0
  · have hT : listT kd l = [91, 93] := by unfold listT; rw [if_neg e1, if_neg e4, if_pos e0]
    rw [hT] at hl
    have b0 : ((l.length : Int) == 0) = true := by simp [e0]
    have HT := Lib.hid hT
    simp only [List.length_cons, List.length_nil] at hl
    clear hT e1 e4 e0
    go_enter Tryz.func40, Tryz.ntmps40
    go_wp2_with fail
    rw [HW.out]
    refine (put_s _ [91, 93] rfl H.out (by decide) (by omega)).mono ?_
    rintro e w2 ⟨v2, rfl, hw2, hgo2⟩
    go_wp2_with fail
    go_end0
    rw [HT.out]
    exact ⟨v2, rfl, hw2, hgo0.trans hgo2⟩
  have b0 : ((l.length : Int) == 0) = false := by simp only [beq_eq_false_iff_ne, ne_eq]; omega
  have hT : listT kd l = altsT l true := by unfold listT; rw [if_neg e1, if_neg e4, if_neg e0]
  rw [hT] at hl
  have HT := Lib.hid hT
  clear hT e1 e4 e0
  go_enter Tryz.func40, Tryz.ntmps40
  go_wp2_with fail
  rw [HW.out]
  go_loopw [9] (fun i ww => ∃ k : Nat, k ≤ l.length ∧ i = .int .i64 k ∧ ∃ t v', WS wb (ws ++ t) v' ww ∧ WGo wb v W v' ww ∧ Hid (t ++ altsT (l.drop k) (k == 0) = altsT l true)) (fun i _ => l.length - (intOf i).toNat)
  case atStart => exact ⟨0, Nat.zero_le _, rfl, [], v, by simpa using H.out, WGo.refl _ _ _, rfl⟩
  case round =>
    obtain ⟨k, hk', rfl, t, v3, hw3, hgo3, hT⟩ := hrel
    have H3 := Lib.hid hw3; have G3 := Lib.hid hgo3
    have htl : t.length + (altsT (l.drop k) (k == 0)).length = (altsT l true).length := by rw [← List.length_append, hT.out]
    by_cases hlt : k < l.length
    · obtain ⟨b, o, x, kd', set', B1, d1, by', r', B3, d3, wt', B4, d4, xl', B5, d5, rfl, hnb', hd, hmem, hxe, hV, z0, z1, z2, z3, z4, z5⟩ := (C5.out.step hgo3.step).rce k hlt
      obtain ⟨W1, hW1, hbW, hgW1, hWs1⟩ := one_new wr (.cells #[.int .i64 kd', .slice B1 set'.length d1, .int .i64 by', .slice B3 r'.length d3, .slice B4 wt'.length d4, .slice B5 xl'.length d5] 26)
      have hib : altsT (l.drop k) (k == 0) = (if (k == 0) then [] else [124]) ++ txt x 1 ++ altsT (l.drop (k + 1)) false := by rw [hd, altsT]
      have HIB := Lib.hid hib; have HW1 := Lib.hid hW1
      have hsz := hw3.size
      have HV := Lib.hid (RcV.stp (WGo.grown hgW1).step hV)
      have H4 := Lib.hid (hw3.kept hgW1)
      have hnbW : nW wb v3 W1 wr.heap.size := ⟨by omega, by omega, fun e => by have := (hw3.wr.2.base _ e.symm).2; omega⟩
      have BW := Lib.hid hbW
      have HNX := Lib.hid (HNN.out x hmem 1 (by decide))
      have HXE := Lib.hid hxe
      have hgo1 : WGo wb v3 wr v3 W1 := WGo.grown hgW1
      have htl2 := congrArg List.length hib
      rw [List.length_append, List.length_append] at htl2
      by_cases e0 : k = 0
      · have hk0 : (k == 0) = true := by simp [e0]
        have HIB2 : Hid (altsT (l.drop k) (k == 0) = txt x 1 ++ altsT (l.drop (k + 1)) false) := by rw [HIB.out, hk0]; rfl
        have bk : ¬ (0 : Int) < (k : Int) := by omega
        rw [hk0] at htl2 htl
        simp only [if_true, List.length_nil] at htl2
        have hbx := hbW
        have k0' := cells_at hbx 0; have k1' := cells_at hbx 1; have k2' := cells_at hbx 2; have k3' := cells_at hbx 3; have k4' := cells_at hbx 4; have k5' := cells_at hbx 5
        simp at k0' k1' k2' k3' k4' k5'
        have hnode := HNX.out (ws ++ t) v3 W1 _ H4.out (by rw [HXE.out]; exact HV.out) (by simp only [List.length_append]; omega)
        have HND := Lib.hid hnode
        have hk1 : ((k + 1) == 0) = false := by simp
        have HK1 := Lib.hid hk1
        clear hib hW1 hV hw3 hgo3 hbW hd hmem hxe hbx hnode hk0 e0 k0 k5 hk1
        go_wp2_with fail
        rw [HW1.out]
        refine HND.out.mono ?_
        rintro e w6 ⟨v6, rfl, hw6, hgo6⟩
        have HW6 := Lib.hid hw6; have G6 := Lib.hid hgo6
        clear hw6 hgo6
        go_wp2_with fail
        go_roundw
        case rel => exact ⟨k + 1, by omega, by go_num, t ++ txt x 1, v6, by simpa only [List.append_assoc] using HW6.out, G3.out.trans (hgo1.trans G6.out), by
            show _ = _
            rw [← hT.out, HIB2.out, HK1.out]; simp only [List.append_assoc]⟩
        case measure => simp [intOf]; omega
      · have hk0 : (k == 0) = false := by simpa using e0
        have HIB2 : Hid (altsT (l.drop k) (k == 0) = [124] ++ txt x 1 ++ altsT (l.drop (k + 1)) false) := by rw [HIB.out, hk0]; rfl
        rw [hk0] at htl2
        simp only [Bool.false_eq_true, if_false, List.length_cons, List.length_nil] at htl2
        have bk : (0 : Int) < (k : Int) := by omega
        have hk1 : ((k + 1) == 0) = false := by simp
        have HK1 := Lib.hid hk1; have HK0 := Lib.hid hk0
        rw [hk0] at htl
        clear hib hW1 hV hw3 hgo3 hbW hd hmem hxe e0 k0 k5 hk1 hk0
        go_wp2_with fail
        rw [HW1.out]
        refine (put_s _ [124] rfl H4.out (by decide) (by rw [List.length_append]; omega)).mono ?_
        rintro e w5 ⟨v5, rfl, hw5, hgo5⟩
        have hb5 := hgo5.step wr.heap.size hnbW
        have hbx := hb5.2.trans BW.out
        have k0' := cells_at hbx 0; have k1' := cells_at hbx 1; have k2' := cells_at hbx 2; have k3' := cells_at hbx 3; have k4' := cells_at hbx 4; have k5' := cells_at hbx 5
        simp at k0' k1' k2' k3' k4' k5'
        have HW5 := Lib.hid hw5; have G5 := Lib.hid hgo5
        have hnode := HNX.out (ws ++ t ++ [124]) v5 w5 _ hw5 (by rw [HXE.out]; exact RcV.stp hgo5.step HV.out) (by simp only [List.length_append, List.length_cons, List.length_nil]; omega)
        have HND := Lib.hid hnode
        clear hb5 hbx hw5 hgo5 hnode
        go_wp2_with fail
        refine HND.out.mono ?_
        rintro e w6 ⟨v6, rfl, hw6, hgo6⟩
        have HW6 := Lib.hid hw6; have G6 := Lib.hid hgo6
        clear hw6 hgo6 k0' k1' k2' k3' k4' k5'
        go_wp2_with fail
        go_roundw
        case rel => exact ⟨k + 1, by omega, by go_num, t ++ ([124] ++ txt x 1), v6, by simpa only [List.append_assoc] using HW6.out, G3.out.trans (hgo1.trans (G5.out.trans G6.out)), by
            show _ = _
            rw [← hT.out, HIB2.out, HK1.out]; simp only [List.append_assoc]⟩
        case measure => simp [intOf]; omega
    · obtain rfl : k = l.length := by omega
      have ht : t = altsT l true := by
        have := hT.out
        rw [List.drop_length, altsT, List.append_nil] at this
        exact this
      have HT2 := Lib.hid ht
      clear hw3 hgo3 hT ht
      go_wp2_with fail
      go_end0
      rw [HT.out, ← HT2.out]
      exact ⟨v3, rfl, H3.out, hgo0.trans G3.out⟩
end Go.Proofs.YtocfmjiollafaaaGreatDoor
