import Derived.Test.YtocfmjiollafaaaGreatDoorWrl
import Derived.Test.YtocfmjiollafaaaGreatDoorRcv
import Derived.Lib.ItoaNum
import Derived.Deep.DeepCutAuto
import Derived.Deep.CutBlock
import Derived.Outline
namespace Go.Proofs.YtocfmjiollafaaaGreatDoor
open Go.RowKit
set_option linter.unusedVariables false
set_option linter.unusedSimpArgs false
/-- the tables of the library's that are read -/
structure Tabs (w : World) : Prop where
  tz : w.cell? ⟨3, 15, none⟩ = some (.int .u8 4)
  pw : Lib.TabIs Tryz.prog w "internal/strconv.uint64pow10" .u64 Lib.pow10Tab
theorem glob0 : Tryz.prog.globalNamed "internal/strconv.uint64pow10" = some 0 := by kernel_rfl
theorem Tabs.step {w w' : World} (h : Tabs w) (h0 : w'.heap[0]? = w.heap[0]?) (h3 : w'.heap[3]? = w.heap[3]?) : Tabs w' := by
  refine ⟨tz_kept h.tz h3, ?_⟩
  have := h.pw
  unfold Lib.TabIs World.var? at this ⊢
  rw [glob0] at this ⊢
  simp only [Option.bind_some, h0] at this ⊢
  exact this
theorem Tabs.kept {w w' : World} (h : Tabs w) (hg : w.grownBy w' none) : Tabs w' :=
  h.step (hg.block 0 (by have := tz_lt h.tz; omega) (by simp)) (hg.block 3 (tz_lt h.tz) (by simp))
/-- a writer at work -/
structure WS (wb : Nat) (ws : List Int) (v : Value) (w : World) : Prop where
  wr : Wr wb ws v w
  lt : 3 < wb
  tab : Tabs w
theorem WS.go {wb : Nat} {ws ws' : List Int} {v v' : Value} {w w' : World} (h : WS wb ws v w) (hw : Wr wb ws' v' w') (hg : WGo wb v w v' w') : WS wb ws' v' w' := by
  have hb := h.wr.2.base
  have h3 := tz_lt h.tab.tz
  have hl := h.lt
  exact ⟨hw, h.lt, h.tab.step (hg.block 0 (by omega) (by omega) (by intro e; have := (hb 0 e.symm).1; omega)) (hg.block 3 h3 (by omega) (by intro e; have := (hb 3 e.symm).1; omega))⟩
theorem WS.kept {wb : Nat} {ws : List Int} {v : Value} {w w' : World} (h : WS wb ws v w) (hg : w.grownBy w' none) : WS wb ws v w' := h.go (h.wr.kept hg) (WGo.grown hg)
theorem WS.size {wb : Nat} {ws : List Int} {v : Value} {w : World} (h : WS wb ws v w) : wb < w.heap.size := (Array.getElem?_eq_some_iff.1 h.wr.1).1
/-- How a writer's function ends. -/
def WSPost (wb : Nat) (ws t : List Int) (v : Value) (w : World) (e : Ending) (w' : World) : Prop :=
  ∃ v', e = .returned (.tuple #[]) ∧ WS wb (ws ++ t) v' w' ∧ WGo wb v w v' w'
theorem put_s {wb : Nat} {ws : List Int} {v : Value} {w : World} (s : ByteArray) (t : List Int) (ht : runesOf s = t) (h : WS wb ws v w) (hs : s.size ≤ 1048576) (hl : ws.length ≤ 65536) :
    Calls Tryz.prog 36 #[.pointer (some ⟨wb, 0, none⟩), .string s] w (WSPost wb ws t v w) := by
  refine (put_any s h.wr hs hl).mono ?_
  rintro e w' ⟨v', rfl, hw, hg⟩
  rw [ht] at hw
  exact ⟨v', rfl, h.go hw hg, hg⟩
theorem letter_s {wb : Nat} {ws : List Int} {v : Value} {w : World} (x : Int) (hx : inS 2 x = true) (h : WS wb ws v w) (hl : ws.length ≤ 65536) :
    Calls Tryz.prog 59 #[.pointer (some ⟨wb, 0, none⟩), .int .i32 x] w (WSPost wb ws (letterW x) v w) := by
  refine (letterW_any x hx h.wr h.tab.tz h.lt hl).mono ?_
  rintro e w' ⟨v', rfl, hw, hg⟩
  exact ⟨v', rfl, h.go hw hg, hg⟩
/-- a slice's part of a recipe, in memory that a writer does not reach -/
theorem RcV.cells {N : Nat → Prop} {kind by_ : Int} {set : List Sp} {r wr : List Int} {l : List Rc} {u : Value} {w : World} (h : RcV N (.mk kind set by_ r wr l) u w) :
    ∃ A1 c1 A3 c3 A4 c4 A5 c5, u = .agg #[.int .i64 kind, .slice A1 set.length c1, .int .i64 by_, .slice A3 r.length c3, .slice A4 wr.length c4, .slice A5 l.length c5] ∧ I64 kind ∧ I64 by_ ∧
      (set.length ≤ c1 ∧ kSp.C w N A1 set) ∧ (r.length ≤ c3 ∧ kRune.C w N A3 r) ∧ (wr.length ≤ c4 ∧ kRune.C w N A4 wr) ∧ (l.length ≤ c5 ∧ kRc.C w N A5 l) := by
  obtain ⟨cs, rfl, hK⟩ := h
  obtain ⟨A1, c1, A3, c3, A4, c4, A5, c5, hcs, h⟩ := kRc_iff.1 hK
  exact ⟨A1, c1, A3, c3, A4, c4, A5, c5, by rw [show cs = ⟨cs.toList⟩ from rfl, hcs], h⟩
theorem runesOf_lit (a : Array UInt8) (t : List Int) (h : runesOf ⟨a⟩ = t) : runesOf ⟨a⟩ = t := h
def pair1B (r w : List Int) : Bool := decide (r.length = 1 ∧ w.length = 1 ∧ r.getD 0 0 = w.getD 0 0)
theorem take_flat (f : Int → List Int) (r : List Int) (k : Nat) : ((r.take k).flatMap f).length ≤ (r.flatMap f).length := by
  have h := congrArg (List.flatMap f) (List.take_append_drop k r)
  rw [List.flatMap_append] at h
  have := congrArg List.length h
  rw [List.length_append] at this
  omega
theorem flat_len (r : List Int) : r.length ≤ (r.flatMap letterW).length := by
  induction r with
  | nil => simp
  | cons x r ih => rw [List.flatMap_cons, List.length_append, List.length_cons]; have := (letterW_len x).1; omega
theorem flat_snoc (f : Int → List Int) (r : List Int) (k : Nat) (x : Int) (h : r[k]? = some x) : (r.take (k + 1)).flatMap f = (r.take k).flatMap f ++ f x := by
  obtain ⟨hk, e⟩ := List.getElem?_eq_some_iff.1 h
  rw [List.take_succ_eq_append_getElem hk, List.flatMap_append, e]; simp
theorem fits_at {r : List Int} (h : fitsM 2 r = true) {k : Nat} {x : Int} (hx : r[k]? = some x) : inS 2 x = true := List.all_eq_true.1 h x (List.mem_of_getElem? hx)
theorem pairT_one {r w : List Int} (h : pair1B r w = true) : ∃ x, r = [x] ∧ pairT r w = letterW x := by
  have h := of_decide_eq_true h
  obtain ⟨x, rfl⟩ := List.length_eq_one_iff.1 h.1
  exact ⟨x, rfl, by unfold pairT; rw [if_pos h]; rfl⟩
theorem pairT_two {r w : List Int} (h : pair1B r w = false) : pairT r w = [123] ++ r.flatMap letterW ++ [62] ++ w.flatMap letterW ++ [125] := by
  have h := of_decide_eq_false h
  unfold pairT; rw [if_neg h]
theorem WGo.box {wb : Nat} {v v1 : Value} {w W w1 : World} (hg : w.grownBy W none) (h : WGo wb v W v1 w1) : WGo wb v w v1 w1 := (WGo.grown hg).trans h
set_option maxRecDepth 100000 in
set_option maxHeartbeats 1000000 in
theorem pair_any {wb : Nat} {ws : List Int} {v : Value} {w : World} {kind by_ : Int} {set : List Sp} {r wt : List Int} {l : List Rc} {u : Value} (h : WS wb ws v w) (hu : RcV (nW wb v w) (.mk kind set by_ r wt l) u w)
    (hr : fitsM 2 r = true) (hwr : fitsM 2 wt = true) (hl : ws.length + (pairT r wt).length ≤ 65536) : Calls Tryz.prog 38 #[.pointer (some ⟨wb, 0, none⟩), u] w (WSPost wb ws (pairT r wt) v w) := by
  obtain ⟨A1, c1, A3, c3, A4, c4, A5, c5, rfl, hk, hb, h1, h3, h4, h5⟩ := hu.cells
  obtain ⟨W, hW, hb2, hgW, hWs⟩ := one_new w (.cells #[.int .i64 kind, .slice A1 set.length c1, .int .i64 by_, .slice A3 r.length c3, .slice A4 wt.length c4, .slice A5 l.length c5] 26)
  have H := Lib.hid (h.kept hgW)
  have HW := Lib.hid hW
  have hwb := h.size
  have hnw : ∀ k, nW wb v w k → nW wb v W k ∧ W.heap[k]? = w.heap[k]? := (WGo.grown hgW).step
  have C3 := Lib.hid (h3.2.step hnw); have C4 := Lib.hid (h4.2.step hnw)
  have hl3 := h3.1; have hl4 := h4.1
  have B2 := Lib.hid hb2
  have hnb : nW wb v W w.heap.size := ⟨by omega, by omega, fun e => by have := (h.wr.2.base _ e.symm).2; omega⟩
  have k3 := cells_at hb2 3; have k4 := cells_at hb2 4
  simp at k3 k4
  clear h h1 h3 h4 h5 hu hb2 hW hnw
  go_enter Tryz.func38, Tryz.ntmps38
  go_wp2_with fail
  rw [HW.out]
  go_cut [28] (fun t w1 => t = .bool (pair1B r wt) ∧ W.grownBy w1 none)
  case first =>
    by_cases e1 : r.length = 1
    · by_cases e2 : wt.length = 1
      · obtain ⟨x, hx⟩ := List.length_eq_one_iff.1 e1
        obtain ⟨y, hy⟩ := List.length_eq_one_iff.1 e2
        obtain ⟨b3, o3, x', hA3, hn3, q3, i3, g3, d3⟩ := C3.out.rune 0 (by omega)
        obtain ⟨b4, o4, y', hA4, hn4, q4, i4, g4, d4⟩ := C4.out.rune 0 (by omega)
        have hxx : x' = x := by rw [hx] at g3; exact (Option.some.inj g3).symm
        have hyy : y' = y := by rw [hy] at g4; exact (Option.some.inj g4).symm
        have hp : pair1B r wt = (x == y) := by
          rw [hx, hy]; unfold pair1B
          simp only [List.length_singleton, true_and, List.getD_cons_zero]
          by_cases e : x = y <;> simp [e]
        have HP := Lib.hid hp
        have be1 : ((r.length : Int) == 1) = true := by simp [e1]
        have be2 : ((wt.length : Int) == 1) = true := by simp [e2]
        have bl1 : (0 : Int) < (r.length : Int) := by omega
        have bl2 : (0 : Int) < (wt.length : Int) := by omega
        simp only [Nat.add_zero] at q3 q4
        subst hxx hyy hA3 hA4
        clear hp hx hy e1 e2 g3 g4 d3 d4
        go_quiet (fail)
        go_wp2_with fail
        go_meet
        case rel => exact ⟨by rw [HP.out], grown_drewN _ _ _⟩
      · have hp : pair1B r wt = false := by unfold pair1B; simp [e2]
        have HP := Lib.hid hp
        have be1 : ((r.length : Int) == 1) = true := by simp [e1]
        have be2 : ((wt.length : Int) == 1) = false := by simp; omega
        clear hp e1 e2
        go_quiet (fail)
        go_wp2_with fail
        go_meet
        case rel => exact ⟨by rw [HP.out], grown_drewN _ _ _⟩
    · have hp : pair1B r wt = false := by unfold pair1B; simp [e1]
      have HP := Lib.hid hp
      have be1 : ((r.length : Int) == 1) = false := by simp; omega
      clear hp e1
      go_quiet (fail)
      go_wp2_with fail
      go_meet
      case rel => exact ⟨by rw [HP.out], grown_drewN _ _ _⟩
  case rest =>
    obtain ⟨w1, hw1⟩ : ∃ w1, w1 = wc := ⟨_, rfl⟩
    subst hw1
    obtain ⟨rfl, hg1⟩ := hcut
    have H1 := Lib.hid (H.out.kept hg1)
    have hgo1 : WGo wb v W v w1 := WGo.grown hg1
    have hgo0 : WGo wb v w v W := WGo.grown hgW
    have hbx := fun v' ww (g : WGo wb v W v' ww) => (g.step w.heap.size hnb).2.trans B2.out
    have HX := Lib.hid hbx
    have b1 := hbx v w1 hgo1
    have q3 := cells_at b1 3; have q4 := cells_at b1 4
    simp at q3 q4
    clear hbx b1 k3 k4
    cases hp : pair1B r wt with
    | true =>
      obtain ⟨x, rfl, hpx⟩ := pairT_one hp
      have HPX := Lib.hid hpx
      obtain ⟨b3, o3, x', hA3, hn3, i3, j3, g3, d3⟩ := (C3.out.step hgo1.step).rune 0 (by simp)
      have hxx : x' = x := by simpa using g3.symm
      have hx : inS 2 x = true := by simpa [fitsM] using hr
      subst hxx hA3
      simp only [Nat.add_zero] at i3
      have hle : ws.length ≤ 65536 := by omega
      clear hp hpx g3 d3 hl hr
      go_wp2_with (go_at_call 59; refine (letter_s _ hx H1.out hle).mono ?_; rintro e w' ⟨v', rfl, hw, hgo⟩)
      go_end0
      rw [HPX.out]
      exact ⟨v', rfl, hw, (hgo0.trans hgo1).trans hgo⟩
    | false =>
      have hpt := pairT_two hp
      have HPT := Lib.hid hpt
      rw [hpt] at hl
      simp only [List.length_append, List.length_cons, List.length_nil] at hl
      have hr1 : r.length ≤ 65536 := by have := flat_len r; omega
      have hr2 : wt.length ≤ 65536 := by have := flat_len wt; omega
      clear hp hpt
      go_wp2_with fail
      refine (put_s _ [123] rfl H1.out (by decide) (by omega)).mono ?_
      rintro e w2 ⟨v2, rfl, hw2, hgo2⟩
      have b2 := HX.out v2 w2 (hgo1.trans hgo2)
      have q3 := cells_at b2 3; have q4 := cells_at b2 4
      simp at q3 q4
      have H2 := Lib.hid hw2; have G2 := Lib.hid (hgo1.trans hgo2)
      clear b2 hw2 hgo1 hgo2
      go_wp2_with fail
      go_loopw [40] (fun i ww => ∃ k : Nat, k ≤ r.length ∧ i = .int .i64 k ∧ ∃ v', WS wb (ws ++ [123] ++ (r.take k).flatMap letterW) v' ww ∧ WGo wb v W v' ww) (fun i _ => r.length - (intOf i).toNat)
      case atStart => exact ⟨0, Nat.zero_le _, rfl, v2, by simpa using H2.out, G2.out⟩
      case round =>
        obtain ⟨k, hk, rfl, v3, hw3, hgo3⟩ := hrel
        have b3 := HX.out v3 _ hgo3
        have q3 := cells_at b3 3; have q4 := cells_at b3 4
        simp at q3 q4
        have H3 := Lib.hid hw3; have G3 := Lib.hid hgo3
        have hfl := take_flat letterW r k
        by_cases hlt : k < r.length
        · obtain ⟨b, o, x, rfl, hn3, i3, j3, g3, d3⟩ := (C3.out.step hgo3.step).rune k hlt
          have hx := fits_at hr g3
          have hs := Lib.hid (flat_snoc letterW r k x g3)
          clear b3 hw3 hgo3 g3 d3 hfl q3 q4
          have hle : (ws ++ [123] ++ (r.take k).flatMap letterW).length ≤ 65536 := by have := take_flat letterW r k; simp only [List.length_append, List.length_cons, List.length_nil]; omega
          go_wp2_with (go_at_call 59; refine (letter_s _ hx H3.out hle).mono ?_; rintro e w' ⟨v', rfl, hw, hgo⟩)
          go_roundw
          case rel => exact ⟨k + 1, by omega, by go_num, v', by rw [hs.out, ← List.append_assoc]; exact hw, G3.out.trans hgo⟩
          case measure => simp [intOf]; omega
        · obtain rfl : k = r.length := by omega
          rw [List.take_length] at H3
          clear b3 hw3 hgo3 hfl
          go_wp2_with fail
          refine (put_s _ [62] rfl H3.out (by decide) (by simp only [List.length_append, List.length_cons, List.length_nil]; omega)).mono ?_
          rintro e w4 ⟨v4, rfl, hw4, hgo4⟩
          have b4 := HX.out v4 w4 (G3.out.trans hgo4)
          have q3 := cells_at b4 3; have q4 := cells_at b4 4
          simp at q3 q4
          have H4 := Lib.hid hw4; have G4 := Lib.hid (G3.out.trans hgo4)
          obtain ⟨wo, hwo⟩ : ∃ wo : World, wo = wr := ⟨_, rfl⟩
          subst hwo
          clear b4 hw4 hgo4 H3 G3
          go_wp2_with fail
          go_loopw [53] (fun i ww => ∃ k : Nat, k ≤ wt.length ∧ i = .int .i64 k ∧ ∃ v', WS wb (ws ++ [123] ++ r.flatMap letterW ++ [62] ++ (wt.take k).flatMap letterW) v' ww ∧ WGo wb v W v' ww) (fun i _ => wt.length - (intOf i).toNat)
          case atStart => exact ⟨0, Nat.zero_le _, rfl, v4, by simpa using H4.out, G4.out⟩
          case round =>
            obtain ⟨k, hk, rfl, v5, hw5, hgo5⟩ := hrel
            have H5 := Lib.hid hw5; have G5 := Lib.hid hgo5
            have hfl := take_flat letterW wt k
            by_cases hlt : k < wt.length
            · obtain ⟨b, o, x, rfl, hn3, i3, j3, g3, d3⟩ := (C4.out.step hgo5.step).rune k hlt
              have hx := fits_at hwr g3
              have hs := Lib.hid (flat_snoc letterW wt k x g3)
              have hle : (ws ++ [123] ++ r.flatMap letterW ++ [62] ++ (wt.take k).flatMap letterW).length ≤ 65536 := by simp only [List.length_append, List.length_cons, List.length_nil]; omega
              clear hw5 hgo5 g3 d3 hfl q3 q4
              go_wp2_with (go_at_call 59; refine (letter_s _ hx H5.out hle).mono ?_; rintro e w' ⟨v', rfl, hw, hgo⟩)
              go_roundw
              case rel => exact ⟨k + 1, by omega, by go_num, v', by rw [hs.out, ← List.append_assoc]; exact hw, G5.out.trans hgo⟩
              case measure => simp [intOf]; omega
            · obtain rfl : k = wt.length := by omega
              rw [List.take_length] at H5
              clear hw5 hgo5 hfl
              go_wp2_with fail
              refine (put_s _ [125] rfl H5.out (by decide) (by simp only [List.length_append, List.length_cons, List.length_nil]; omega)).mono ?_
              rintro e w6 ⟨v6, rfl, hw6, hgo6⟩
              go_wp2_with fail
              go_end0
              rw [HPT.out]
              exact ⟨v6, rfl, by simpa only [List.append_assoc] using hw6, hgo0.trans (G5.out.trans hgo6)⟩
end Go.Proofs.YtocfmjiollafaaaGreatDoor
