import Derived.Test.YtocfmjiollafaaaGreatDoorWrn
import Derived.Deep.LoopGhost
namespace Go.Proofs.YtocfmjiollafaaaGreatDoor
open Go.RowKit
set_option linter.unusedVariables false
set_option linter.unusedSimpArgs false
/-! what a node is printed as -/
def scal : List Sp := [⟨0, 55295⟩, ⟨57344, 1114111⟩]
def decS (n : Int) : List Int := (Lib.itoa n).map fun b => (b.toNat : Int)
def spanT (s : Sp) : List Int := letterW s.lo ++ if s.lo < s.hi then 45 :: letterW s.hi else []
def classT (n : Rc) : List Int :=
  (if n.set = scal then [46] else [91] ++ n.set.flatMap spanT ++ [93]) ++ (if n.kind = 2 then [33] else if n.by_ ≠ 0 then 64 :: decS n.by_ else [])
def nextDig : List Rc → Bool
  | [] => false
  | y :: _ => digitB y
def brk (x : Rc) (l : List Rc) : Bool := decide (x.kind = 1) && (decide (x.by_ ≠ 0) && nextDig l)
mutual
def txt : Rc → Int → List Int
  | .mk k s b r w l, sa =>
    if bareB (.mk k s b r w l) sa then core k s b r w l else [40] ++ core k s b r w l ++ [41]
def core : Int → List Sp → Int → List Int → List Int → List Rc → List Int
  | k, s, b, r, w, l => if k = 1 ∨ k = 2 then classT (.mk k s b r w l) else if k = 3 then pairT r w else if k = 6 then (if l.length = 1 then headT l 3 ++ [42] else [40] ++ itemsT l ++ [41] ++ [42]) else
    if l.length = 1 then [40] ++ headT l 0 ++ [41] else if k = 4 then itemsT l else if l.length = 0 then [91, 93] else altsT l true
def headT : List Rc → Int → List Int
  | [], _ => []
  | x :: _, sa => txt x sa
def itemsT : List Rc → List Int
  | [] => []
  | x :: l => (if brk x l then [40] ++ txt x 2 ++ [41] else txt x 2) ++ itemsT l
def altsT : List Rc → Bool → List Int
  | [], _ => []
  | x :: l, first => (if first then [] else [124]) ++ txt x 1 ++ altsT l false
end
theorem RcV.of_cells {N : Nat → Prop} {w : World} {kd by_ : Int} {set : List Sp} {r wt : List Int} {l : List Rc} {A1 A3 A4 A5 : Option Addr} {c1 c3 c4 c5 : Nat}
    (hK : kRc.K w N (.mk kd set by_ r wt l) [.int .i64 kd, .slice A1 set.length c1, .int .i64 by_, .slice A3 r.length c3, .slice A4 wt.length c4, .slice A5 l.length c5]) :
    RcV N (.mk kd set by_ r wt l) (.agg #[.int .i64 kd, .slice A1 set.length c1, .int .i64 by_, .slice A3 r.length c3, .slice A4 wt.length c4, .slice A5 l.length c5]) w := ⟨_, rfl, hK⟩
/-- an element of a list of recipes, in full -/
theorem Kd.C.rce {w : World} {ok : Nat → Prop} {A : Option Addr} {xs : List Rc} (h : kRc.C w ok A xs) (k : Nat) (hk : k < xs.length) :
    ∃ b o x kd set A1 c1 by_ r A3 c3 wt A4 c4 l A5 c5, A = some ⟨b, o, none⟩ ∧ ok b ∧ xs.drop k = x :: xs.drop (k + 1) ∧ x ∈ xs ∧ x = Rc.mk kd set by_ r wt l ∧
      RcV ok (.mk kd set by_ r wt l) (.agg #[.int .i64 kd, .slice A1 set.length c1, .int .i64 by_, .slice A3 r.length c3, .slice A4 wt.length c4, .slice A5 l.length c5]) w ∧
      w.cell? ⟨b, o + k * 6, none⟩ = some (.int .i64 kd) ∧ w.cell? ⟨b, o + k * 6 + 1, none⟩ = some (.slice A1 set.length c1) ∧ w.cell? ⟨b, o + k * 6 + 2, none⟩ = some (.int .i64 by_) ∧
      w.cell? ⟨b, o + k * 6 + 3, none⟩ = some (.slice A3 r.length c3) ∧ w.cell? ⟨b, o + k * 6 + 4, none⟩ = some (.slice A4 wt.length c4) ∧ w.cell? ⟨b, o + k * 6 + 5, none⟩ = some (.slice A5 l.length c5) := by
  obtain ⟨b, o, x, hA, hb, ⟨cs, hK, hc⟩, h1, h2⟩ := h.at_ k hk
  obtain ⟨kd, set, by_, r, wt, l⟩ := x
  obtain ⟨A1, c1, A3, c3, A4, c4, A5, c5, rfl, hK'⟩ := kRc_iff.1 hK
  exact ⟨b, o, _, kd, set, A1, c1, by_, r, A3, c3, wt, A4, c4, l, A5, c5, hA, hb, h2.out, List.mem_of_getElem? h1, rfl, ⟨_, rfl, hK⟩, hc 0 _ rfl, hc 1 _ rfl, hc 2 _ rfl, hc 3 _ rfl, hc 4 _ rfl, hc 5 _ rfl⟩
/-- The contract of the writer's node at one node. -/
def NodeC (wb : Nat) (n : Rc) (sa : Int) : Prop := ∀ ws v w u, WS wb ws v w → RcV (nW wb v w) n u w → ws.length + (txt n sa).length ≤ 65536 → Calls Tryz.prog 19 #[.pointer (some ⟨wb, 0, none⟩), u, .int .i64 sa] w (WSPost wb ws (txt n sa) v w)
theorem itemsT_drop (l : List Rc) (k : Nat) : (itemsT (l.drop k)).length ≤ (itemsT l).length := by
  induction k generalizing l with
  | zero => simp
  | succ k ih =>
    cases l with
    | nil => simp
    | cons x l => rw [List.drop_succ_cons]; refine Nat.le_trans (ih l) ?_; rw [itemsT, List.length_append]; omega
set_option maxRecDepth 100000 in
set_option maxHeartbeats 4000000 in
theorem items_any {wb : Nat} {ws : List Int} {v : Value} {w : World} {l : List Rc} {A : Option Addr} {c : Nat} (HN : ∀ x ∈ l, NodeC wb x 2) (h : WS wb ws v w) (hc : l.length ≤ c) (hC : kRc.C w (nW wb v w) A l)
    (hl : ws.length + (itemsT l).length ≤ 65536) : Calls Tryz.prog 39 #[.pointer (some ⟨wb, 0, none⟩), .slice A l.length c] w (WSPost wb ws (itemsT l) v w) := by
  have H := Lib.hid h; have HC := Lib.hid hC; have HNN := Lib.hid HN
  have hlen : l.length ≤ 140737488355328 := hC.1
  clear h hC HN
  go_enter Tryz.func39, Tryz.ntmps39
  go_wp2_with fail
  go_loopw [8] (fun i ww => ∃ k : Nat, k ≤ l.length ∧ i = .int .i64 k ∧ ∃ t v', WS wb (ws ++ t) v' ww ∧ WGo wb v w v' ww ∧ Hid (t ++ itemsT (l.drop k) = itemsT l)) (fun i _ => l.length - (intOf i).toNat)
  case atStart => exact ⟨0, Nat.zero_le _, rfl, [], v, by simpa using H.out, WGo.refl _ _ _, rfl⟩
  case round =>
    obtain ⟨k, hk, rfl, t, v3, hw3, hgo3, hT⟩ := hrel
    have H3 := Lib.hid hw3; have G3 := Lib.hid hgo3
    have htl : t.length + (itemsT (l.drop k)).length = (itemsT l).length := by rw [← List.length_append, hT.out]
    by_cases hlt : k < l.length
    · obtain ⟨b, o, x, kd, set, A1, c1, by_, r, A3, c3, wt, A4, c4, xl, A5, c5, rfl, hnb, hd, hmem, hxe, hV, z0, z1, z2, z3, z4, z5⟩ := (HC.out.step hgo3.step).rce k hlt
      obtain ⟨W, hW, hbW, hgW, hWs⟩ := one_new wr (.cells #[.int .i64 kd, .slice A1 set.length c1, .int .i64 by_, .slice A3 r.length c3, .slice A4 wt.length c4, .slice A5 xl.length c5] 26)
      have hib : itemsT (l.drop k) = (if brk x (l.drop (k + 1)) then [40] ++ txt x 2 ++ [41] else txt x 2) ++ itemsT (l.drop (k + 1)) := by rw [hd, itemsT]
      have HIB := Lib.hid hib; have HW := Lib.hid hW
      have hsz := hw3.size
      have HV := Lib.hid (RcV.stp (WGo.grown hgW).step hV)
      have H4 := Lib.hid (hw3.kept hgW)
      have hnbW : nW wb v3 W wr.heap.size := ⟨by omega, by omega, fun e => by have := (hw3.wr.2.base _ e.symm).2; omega⟩
      have k0 := cells_at hbW 0; have k2 := cells_at hbW 2
      simp at k0 k2
      have BW := Lib.hid hbW
      have HNX := Lib.hid (HNN.out x hmem)
      have HXE := Lib.hid hxe
      clear hib hW hV hw3 hgo3 hbW hd hmem hxe
      go_upto_region 3 with (fail)
      rw [HW.out]
      go_cut [35] (fun t w2 => t = .bool (brk x (l.drop (k + 1))) ∧ W.grownBy w2 none)
      case first =>
        have hbk : brk x (l.drop (k + 1)) = (decide (kd = 1) && (decide (by_ ≠ 0) && nextDig (l.drop (k + 1)))) := by rw [HXE.out]; rfl
        have HBK := Lib.hid hbk
        clear hbk
        by_cases e1 : kd = 1
        · have b1 : (kd == 1) = true := by simp [e1]
          by_cases e2 : by_ = 0
          · have hf : brk x (l.drop (k + 1)) = false := by rw [HBK.out]; simp [e2]
            have b2 : (by_ != 0) = false := by simp [e2]
            have HF := Lib.hid hf
            clear e1 e2 hf
            go_wp2_with fail
            go_meet
            case rel => exact ⟨by rw [HF.out], World.grownBy.refl _ _⟩
          · have b2 : (by_ != 0) = true := by simpa using e2
            by_cases e3 : k + 1 < l.length
            · obtain ⟨b', o', y, kd', set', B1, d1, by', r', B3, d3, wt', B4, d4, xl', B5, d5, hA', hnb', hd', hmem', hye, hV', y0, y1, y2, y3, y4, y5⟩ := ((HC.out.step G3.out.step).step (WGo.grown hgW).step).rce (k + 1) e3
              cases hA'
              have hf : brk x (l.drop (k + 1)) = digitB y := by rw [HBK.out, hd']; simp [e1, e2, nextDig]
              have HF := Lib.hid hf
              have b3 : (k : Int) + 1 < (l.length : Int) := by omega
              have b4 : (0 : Int) ≤ (k : Int) + 1 := by omega
              have hdg := digit_any (w := W) (N := nW wb v3 W) (fun k h => h.1) hV'
              rw [← hye] at hdg
              have HDG := Lib.hid hdg
              clear e1 e2 e3 hf hd' hmem' hye hV' hdg
              go_wp2_with (go_at_call 61; refine HDG.out.mono ?_; rintro e w' ⟨rfl, hg⟩)
              go_meet
              case rel => exact ⟨by rw [HF.out], hg⟩
            · have hf : brk x (l.drop (k + 1)) = false := by rw [HBK.out, List.drop_eq_nil_of_le (by omega)]; simp [nextDig]
              have b3 : ¬ (k : Int) + 1 < (l.length : Int) := by omega
              have HF := Lib.hid hf
              clear e1 e2 e3 hf
              go_wp2_with fail
              go_meet
              case rel => exact ⟨by rw [HF.out], World.grownBy.refl _ _⟩
        · have hf : brk x (l.drop (k + 1)) = false := by rw [HBK.out]; simp [e1]
          have b1 : (kd == 1) = false := by simpa using e1
          have HF := Lib.hid hf
          clear e1 hf
          go_wp2_with fail
          go_meet
          case rel => exact ⟨by rw [HF.out], World.grownBy.refl _ _⟩
      case rest =>
        obtain ⟨w2, hw2⟩ : ∃ w2, w2 = wc := ⟨_, rfl⟩
        subst hw2
        obtain ⟨rfl, hg2⟩ := hcut
        have H5 := Lib.hid (H4.out.kept hg2)
        have hgo2 : WGo wb v3 W v3 w2 := WGo.grown hg2
        have hgo1 : WGo wb v3 wr v3 W := WGo.grown hgW
        have HV2 := Lib.hid (RcV.stp hgo2.step HV.out)
        have hb2 := (hgo2.step wr.heap.size hnbW)
        have BW2 := Lib.hid (hb2.2.trans BW.out)
        have hnb2 := hb2.1
        have htl2 := congrArg List.length HIB.out
        rw [List.length_append] at htl2
        cases hbk : brk x (l.drop (k + 1)) with
        | true =>
          rw [hbk] at htl2
          have HIB2 : Hid (itemsT (l.drop k) = [40] ++ txt x 2 ++ [41] ++ itemsT (l.drop (k + 1))) := by
            have := HIB.out
            rw [hbk] at this
            exact this
          simp only [if_true, List.length_append, List.length_cons, List.length_nil] at htl2
          clear hbk k0 k2 hb2
          go_wp2_with fail
          refine (put_s _ [40] rfl H5.out (by decide) (by rw [List.length_append]; omega)).mono ?_
          rintro e w5 ⟨v5, rfl, hw5, hgo5⟩
          have hb5 := hgo5.step wr.heap.size hnb2
          have hbx := hb5.2.trans BW2.out
          have k0 := cells_at hbx 0; have k1 := cells_at hbx 1; have k2 := cells_at hbx 2; have k3 := cells_at hbx 3; have k4 := cells_at hbx 4; have k5 := cells_at hbx 5
          simp at k0 k1 k2 k3 k4 k5
          have HW5 := Lib.hid hw5; have G5 := Lib.hid hgo5
          have hnode := HNX.out (ws ++ t ++ [40]) v5 w5 _ hw5 (by rw [HXE.out]; exact RcV.stp hgo5.step HV2.out) (by simp only [List.length_append, List.length_cons, List.length_nil]; omega)
          have HND := Lib.hid hnode
          clear hb5 hbx hw5 hgo5 hnode
          go_wp2_with fail
          refine HND.out.mono ?_
          rintro e w6 ⟨v6, rfl, hw6, hgo6⟩
          have HW6 := Lib.hid hw6; have G6 := Lib.hid hgo6
          clear hw6 hgo6 k0 k1 k2 k3 k4 k5
          go_wp2_with fail
          refine (put_s _ [41] rfl HW6.out (by decide) (by simp only [List.length_append, List.length_cons, List.length_nil]; omega)).mono ?_
          rintro e w7 ⟨v7, rfl, hw7, hgo7⟩
          have HW7 := Lib.hid hw7; have G7 := Lib.hid hgo7
          clear hw7 hgo7
          go_wp2_with fail
          go_roundw
          case rel => exact ⟨k + 1, by omega, by go_num, t ++ ([40] ++ txt x 2 ++ [41]), v7, by simpa only [List.append_assoc] using HW7.out, G3.out.trans (hgo1.trans (hgo2.trans (G5.out.trans (G6.out.trans G7.out)))), by
              show _ = _
              rw [← hT.out, HIB2.out]; simp only [List.append_assoc]⟩
          case measure => simp [intOf]; omega
        | false =>
          rw [hbk] at htl2
          have HIB2 : Hid (itemsT (l.drop k) = txt x 2 ++ itemsT (l.drop (k + 1))) := by
            have := HIB.out
            rw [hbk] at this
            exact this
          simp only [Bool.false_eq_true, if_false] at htl2
          have hbx := BW2.out
          have k0 := cells_at hbx 0; have k1 := cells_at hbx 1; have k2 := cells_at hbx 2; have k3 := cells_at hbx 3; have k4 := cells_at hbx 4; have k5 := cells_at hbx 5
          simp at k0 k1 k2 k3 k4 k5
          have hnode := HNX.out (ws ++ t) v3 w2 _ H5.out (by rw [HXE.out]; exact HV2.out) (by simp only [List.length_append]; omega)
          have HND := Lib.hid hnode
          clear hbk hb2 hbx hnode
          go_wp2_with fail
          refine HND.out.mono ?_
          rintro e w6 ⟨v6, rfl, hw6, hgo6⟩
          have HW6 := Lib.hid hw6; have G6 := Lib.hid hgo6
          clear hw6 hgo6 k0 k1 k2 k3 k4 k5
          go_wp2_with fail
          go_roundw
          case rel => exact ⟨k + 1, by omega, by go_num, t ++ txt x 2, v6, by simpa only [List.append_assoc] using HW6.out, G3.out.trans (hgo1.trans (hgo2.trans G6.out)), by
              show _ = _
              rw [← hT.out, HIB2.out]; simp only [List.append_assoc]⟩
          case measure => simp [intOf]; omega
    · obtain rfl : k = l.length := by omega
      have ht : t = itemsT l := by
        have := hT.out
        rw [List.drop_length, itemsT, List.append_nil] at this
        exact this
      have HT := Lib.hid ht
      clear hw3 hgo3 hT ht
      go_wp2_with fail
      go_end0
      rw [← HT.out]
      exact ⟨v3, rfl, H3.out, G3.out⟩
end Go.Proofs.YtocfmjiollafaaaGreatDoor
