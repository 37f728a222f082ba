import Derived.Test.YtocfmjiollafaaaGreatDoorAwk
namespace Go.Proofs.YtocfmjiollafaaaGreatDoor
open Go.RowKit
set_option linter.unusedVariables false
set_option linter.unusedSimpArgs false
theorem pair_cls (a b : List Int) : clsN noRc (kPair a b) := by simp [kPair, clsN, clsL]
theorem pair_ok {a b : List Int} (ha : fitsM 2 a = true) (hb : fitsM 2 b = true) : okN noRc (kPair a b) := by simp [kPair, okN, okL, ha, hb]
theorem pair_rgt {a b : List Int} (ha : fitsM 2 a = true) (hb : fitsM 2 b = true) : (rgt noCo (kPair a b) 0).1 = true := by simp [kPair, rgt, ha, hb]
theorem pair_txt (a b : List Int) : txt (kPair a b) 0 = pairT a b := by rw [kPair, txt, if_pos (bare0 _), core, if_neg (by decide), if_pos rfl]
theorem flat_le (r : List Int) : (r.flatMap letterW).length ≤ 6 * r.length := by
  induction r with
  | nil => simp
  | cons x r ih => rw [List.flatMap_cons, List.length_append, List.length_cons]; have := (letterW_len x).2; omega
theorem pairT_len (a b : List Int) : (pairT a b).length ≤ 6 * a.length + 6 * b.length + 9 := by
  unfold pairT
  split
  · have := (letterW_len (a.getD 0 0)).2; omega
  · have h1 := flat_le a; have h2 := flat_le b
    simp only [List.length_append, List.length_cons, List.length_nil]; omega
theorem fits_app {a b : List Int} : fitsM 2 (a ++ b) = (fitsM 2 a && fitsM 2 b) := by unfold fitsM; rw [List.all_append]
theorem fits_flat {a : List Int} (h : fitsM 2 a = true) : fitsM 2 (a.flatMap letterW) = true := by
  induction a with
  | nil => rfl
  | cons x a ih =>
    unfold fitsM at h
    simp only [List.all_cons, Bool.and_eq_true] at h
    rw [List.flatMap_cons, fits_app, fits_letterW x h.1, ih h.2]; rfl
theorem fits_pairT {a b : List Int} (ha : fitsM 2 a = true) (hb : fitsM 2 b = true) : fitsM 2 (pairT a b) = true := by
  unfold pairT
  split
  · rename_i h
    obtain ⟨x, rfl⟩ := List.length_eq_one_iff.1 h.1
    exact fits_letterW x (by simpa [fitsM] using ha)
  · simp only [fits_app, fits_flat ha, fits_flat hb]; rfl
theorem runesOf_bytes {l : List Int} (h : fitsM 2 l = true) : runesOf (runesBytes l) = l := runesOf_back l h _ (runesBytes_list l)
theorem runesBytes_size (l : List Int) : (runesBytes l).size ≤ 4 * l.length := by
  have h : (runesBytes l).data.toList.length ≤ 4 * l.length := by
    rw [runesBytes_list]
    induction l with
    | nil => simp
    | cons x l ih => rw [List.flatMap_cons, List.length_append, List.length_cons]; have := enc_size x; simp at this ⊢; simp at ih; omega
  simpa using h
set_option maxRecDepth 100000 in
set_option maxHeartbeats 1000000 in
theorem RecipeLetters_any (a b : List Int) (A B : Option Addr) (c d : Nat) {w : World} (ha : a.length ≤ c) (hb : b.length ≤ d) (hA : kRune.C w (live w) A a) (hB : kRune.C w (live w) B b) (hT : Tabs w) :
    Calls Tryz.prog 4 #[.slice A a.length c, .slice B b.length d] w (TrueG w) := by
  have hla : a.length ≤ 140737488355328 := hA.1
  have hlb : b.length ≤ 140737488355328 := hB.1
  have HT := Lib.hid hT; have CA := Lib.hid hA; have CB := Lib.hid hB
  have haw := awake_any hT
  have HAW := Lib.hid haw
  have hfa := Fits2_any a A c (live w) w hA; have hfb := Fits2_any b B d (live w) w hB
  have HFA := Lib.hid hfa; have HFB := Lib.hid hfb
  clear hT hA hB haw hfa hfb
  by_cases e1 : 100 < a.length
  · have b1 : (100 : Int) < (a.length : Int) := by omega
    clear e1
    go_enter Tryz.func4, Tryz.ntmps4
    go_wp2_with fail
    refine HAW.out.mono ?_
    rintro e w' ⟨rfl, hg⟩
    go_wp2_with fail
    go_ret
    exact ⟨rfl, hg⟩
  have b1 : ¬ (100 : Int) < (a.length : Int) := by omega
  by_cases e2 : 100 < b.length
  · have b2 : (100 : Int) < (b.length : Int) := by omega
    clear e1 e2
    go_enter Tryz.func4, Tryz.ntmps4
    go_wp2_with fail
    refine HAW.out.mono ?_
    rintro e w' ⟨rfl, hg⟩
    go_wp2_with fail
    go_ret
    exact ⟨rfl, hg⟩
  have b2 : ¬ (100 : Int) < (b.length : Int) := by omega
  cases e3 : fitsM 2 a with
  | false =>
    rw [e3] at HFA
    clear e1 e2 e3
    go_enter Tryz.func4, Tryz.ntmps4
    go_wp2_with fail
    refine HFA.out.mono ?_
    rintro e w' ⟨rfl, rfl⟩
    go_wp2_with fail
    refine HAW.out.mono ?_
    rintro e w' ⟨rfl, hg⟩
    go_wp2_with fail
    go_ret
    exact ⟨rfl, hg⟩
  | true =>
  rw [e3] at HFA
  cases e4 : fitsM 2 b with
  | false =>
    rw [e4] at HFB
    clear e1 e2 e3 e4
    go_enter Tryz.func4, Tryz.ntmps4
    go_wp2_with fail
    refine HFA.out.mono ?_
    rintro e w' ⟨rfl, rfl⟩
    go_wp2_with fail
    refine HFB.out.mono ?_
    rintro e w' ⟨rfl, rfl⟩
    go_wp2_with fail
    refine HAW.out.mono ?_
    rintro e w' ⟨rfl, hg⟩
    go_wp2_with fail
    go_ret
    exact ⟨rfl, hg⟩
  | true =>
  rw [e4] at HFB
  obtain ⟨W, hW, hb2, hgW, hWs⟩ := one_new w (.cells #[.int .i64 3, .slice none 0 0, .int .i64 0, .slice A a.length c, .slice B b.length d, .slice none 0 0] 26)
  have hpl := pairT_len a b
  have hn : ∀ ww, w.grownBy ww none → RcV (live w) (kPair a b) (.agg #[.int .i64 3, .slice none 0 0, .int .i64 0, .slice A a.length c, .slice B b.length d, .slice none 0 0]) ww := fun ww hg =>
    ⟨_, rfl, kRc_iff.2 ⟨none, 0, A, c, B, d, none, 0, rfl, by decide, by decide, ⟨Nat.le_refl _, Kd.C_nil _ _ _ _⟩, ⟨ha, CA.out.step fun k hk => ⟨hk, hg.block k hk (by simp)⟩⟩, ⟨hb, CB.out.step fun k hk => ⟨hk, hg.block k hk (by simp)⟩⟩, ⟨Nat.le_refl _, Kd.C_nil _ _ _ _⟩⟩⟩
  have hpr := Print_ok cls_no (rgt_no noCo (pair_cls a b)) (pair_ok e3 e4) (pair_rgt e3 e4) (by rw [pair_txt]; omega) (HT.out.kept hgW) (N := live w) (w := W) (fun k hk => by have : k < w.heap.size := hk; omega) (hn W hgW)
  rw [pair_txt] at hpr
  have hro := runesOf_bytes (fits_pairT e3 e4)
  have hps := fun w2 => Parse_any (runesBytes (pairT a b)) (w := w2) (r := .ok (kPair a b) (pairT a b).length) (by have := runesBytes_size (pairT a b); omega) (by rw [hro]; omega) (by rw [hro]; exact parse_pair a b e3 e4)
  have HPR := Lib.hid hpr; have HPS := Lib.hid hps; have HN := Lib.hid hn; have HW := Lib.hid hW; have B2 := Lib.hid hb2
  clear hpr hps hn hW hb2 hro e3 e4 e1 e2 hpl
  go_enter Tryz.func4, Tryz.ntmps4
  go_wp2_with fail
  refine HFA.out.mono ?_
  rintro e w' ⟨rfl, rfl⟩
  go_wp2_with fail
  refine HFB.out.mono ?_
  rintro e w' ⟨rfl, rfl⟩
  go_wp2_with fail
  rw [HW.out]
  refine HPR.out.mono ?_
  rintro e w1 ⟨rfl, hg1⟩
  go_wp2_with fail
  refine (HPS.out w1).mono ?_
  rintro e w2 ⟨u, rfl, hu, hg2⟩
  obtain ⟨cs, rfl, hK⟩ := hu
  obtain ⟨A1, c1, A3, c3, A4, c4, A5, c5, hce, _⟩ := kRc_iff.1 hK
  have hcs : cs = #[.int .i64 3, .slice A1 0 c1, .int .i64 0, .slice A3 a.length c3, .slice A4 b.length c4, .slice A5 0 c5] := by rw [show cs = ⟨cs.toList⟩ from rfl, hce]; rfl
  subst hcs
  obtain ⟨W3, hW3, hb3, hgW3, hWs3⟩ := one_new w2 (.cells #[.int .i64 3, .slice A1 0 c1, .int .i64 0, .slice A3 a.length c3, .slice A4 b.length c4, .slice A5 0 c5] 26)
  have hg3 := (hg1.trans hg2).trans hgW3
  have hs2 := hg2.size
  have hbx := (hg3.block w.heap.size (by omega) (by simp)).trans B2.out
  have x0 := cells_at hbx 0; have x1 := cells_at hbx 1; have x2 := cells_at hbx 2; have x3 := cells_at hbx 3; have x4 := cells_at hbx 4; have x5 := cells_at hbx 5
  have y0 := cells_at hb3 0; have y1 := cells_at hb3 1; have y2 := cells_at hb3 2; have y3 := cells_at hb3 3; have y4 := cells_at hb3 4; have y5 := cells_at hb3 5
  simp at x0 x1 x2 x3 x4 x5 y0 y1 y2 y3 y4 y5
  have hsm := Same_leaf 3 0 [] a b (live w) (fresh w1 w2) _ _ W3 (fun k hk => by have h1 : k < w.heap.size := hk; have := hg3.size; omega) (fun k hk => by have := hk.2; omega) (HN.out W3 (hgW.trans hg3))
    (show RcV (fresh w1 w2) (kPair a b) (.agg #[.int .i64 3, .slice A1 0 c1, .int .i64 0, .slice A3 a.length c3, .slice A4 b.length c4, .slice A5 0 c5]) W3 from ⟨_, rfl, kRc.step (fun k hk => ⟨hk, hgW3.block k hk.2 (by simp)⟩) hK⟩)
  have HSM := Lib.hid hsm; have HW3 := Lib.hid hW3
  clear hsm hK hce hbx hb3 hW3
  go_upto_region 6 with (fail)
  rw [HW3.out]
  go_wp2_with fail
  refine HSM.out.mono ?_
  rintro e w4 ⟨rfl, hg4⟩
  have hgall := (hgW.trans hg3).trans hg4
  clear x0 x1 x2 x3 x4 x5 y0 y1 y2 y3 y4 y5
  go_wp2_with fail
  refine (awake_any (HT.out.kept hgall)).mono ?_
  rintro e w5 ⟨rfl, hg5⟩
  go_wp2_with fail
  go_ret
  exact ⟨rfl, hgall.trans hg5⟩
end Go.Proofs.YtocfmjiollafaaaGreatDoor
