import Derived.Test.YtocfmjiollafaaaGreatDoorLml
import Derived.Test.YtocfmjiollafaaaGreatDoorBrk
import Derived.Test.YtocfmjiollafaaaGreatDoorTot
import Derived.Test.YtocfmjiollafaaaGreatDoorEct
import Derived.Test.YtocfmjiollafaaaGreatDoorTxx
import Derived.Test.YtocfmjiollafaaaGreatDoorSmg
namespace Go.Proofs.YtocfmjiollafaaaGreatDoor
open Go.RowKit
set_option linter.unusedVariables false
set_option linter.unusedSimpArgs false
theorem Kd.C.takes {α : Type} {d : Kd α} {w : World} {ok : Nat → Prop} {A : Option Addr} {xs : List α} (h : d.C w ok A xs) (n : Nat) : d.C w ok A (xs.take n) := by
  obtain ⟨hl, h⟩ := h
  refine ⟨by simp; omega, ?_⟩
  rcases h with h | ⟨b, o, hA, hb, hc⟩
  · exact .inl (by simp [h])
  · refine .inr ⟨b, o, hA, hb, fun i hi => ?_⟩
    have hi' : i < xs.length := by simp at hi; omega
    obtain ⟨cs, hK, hcell⟩ := hc i hi'
    exact ⟨cs, by rw [List.getElem_take]; exact hK, hcell⟩
set_option maxRecDepth 100000 in
set_option maxHeartbeats 1000000 in
theorem Faults_long (s more : ByteArray) {w : World} (hT : Tabs w) (h : 3000 < s.size ∨ 3000 < more.size) : Calls Tryz.prog 6 #[.string s, .string more] w (TrueG w) := by
  have haw := awake_any hT
  have HAW := Lib.hid haw
  clear hT haw
  by_cases e1 : 3000 < s.size
  · have b1 : (3000 : Int) < (s.size : Int) := by omega
    clear e1 h
    go_enter Tryz.func6, Tryz.ntmps6
    go_wp2_with fail
    refine HAW.out.mono ?_
    rintro e w' ⟨rfl, hg⟩
    go_wp2_with fail
    go_ret
    exact ⟨rfl, hg⟩
  · have b1 : ¬ (3000 : Int) < (s.size : Int) := by omega
    have b2 : (3000 : Int) < (more.size : Int) := by omega
    clear e1 h
    go_enter Tryz.func6, Tryz.ntmps6
    go_wp2_with fail
    refine HAW.out.mono ?_
    rintro e w' ⟨rfl, hg⟩
    go_wp2_with fail
    go_ret
    exact ⟨rfl, hg⟩
set_option maxRecDepth 100000 in
set_option maxHeartbeats 1000000 in
theorem Faults_bad (s more : ByteArray) {w : World} (hT : Tabs w) (h1 : s.size ≤ 3000) (h2 : more.size ≤ 3000) (j : Nat) (hr : parseM (runesOf s) = some (.bad j)) (hj : j ≤ (runesOf s).length) : Calls Tryz.prog 6 #[.string s, .string more] w (TrueG w) := by
  have HT := Lib.hid hT
  have hlen := runesOf_len s
  have b1 : ¬ (3000 : Int) < (s.size : Int) := by omega
  have b2 : ¬ (3000 : Int) < (more.size : Int) := by omega
  have hof := Of_typed s w (by omega)
  have HOF := Lib.hid hof
  have hps := fun w2 => Parse_any s (w := w2) (r := .bad j) (by omega) (by omega) hr
  have HPS := Lib.hid hps
  have HR := Lib.hid hr
  clear hT hof hps hr
  go_enter Tryz.func6, Tryz.ntmps6
  go_wp2_with fail
  refine HOF.out.mono ?_
  rintro e w1 ⟨A, c, rfl, hc, hA, hg1, _⟩
  have HA := Lib.hid hA
  clear hA
  go_wp2_with fail
  refine (HPS.out w1).mono ?_
  rintro e w2 ⟨rfl, hg2⟩
  unfold zeroAgg
  obtain ⟨W3, hW3, hb3, hgW3, hWs3⟩ := one_new w2 (.cells #[.int .i64 0, .slice none 0 0, .int .i64 0, .slice none 0 0, .slice none 0 0, .slice none 0 0] 26)
  have hg13 := hg2.trans hgW3
  have hgA := hg1.trans hg13
  have hs2 := hg13.size
  have HCA := Lib.hid (HA.out.step (w' := W3)  fun k hk => ⟨by have : k < w1.heap.size := hk; show k < W3.heap.size; omega, hg13.block k hk (by simp)⟩)
  have haw := awake_any (HT.out.kept hgA)
  have HAW := Lib.hid haw; have HW3 := Lib.hid hW3
  clear haw hW3 hb3
  by_cases e3 : j = (runesOf s).length
  · have b3 : ¬ ((j : Nat) : Int) < 0 := by omega
    have b4 : ¬ (((runesOf s).length : Nat) : Int) < 0 := by omega
    subst e3
    go_upto_region 5 with (fail)
    rw [HW3.out]
    go_wp2_with fail
    refine HAW.out.mono ?_
    rintro e w5 ⟨rfl, hg5⟩
    go_wp2_with fail
    go_ret
    exact ⟨rfl, hgA.trans hg5⟩
  · have b3 : ¬ ((j : Nat) : Int) < 0 := by omega
    have b4 : ¬ (((runesOf s).length : Nat) : Int) < (j : Int) := by omega
    have b5 : ¬ (j : Int) = ((runesOf s).length : Nat) := by omega
    have hjl : j < (runesOf s).length := by omega
    have hfit : fitsM 2 ((runesOf s).take (j + 1)) = true := by
      have hf := fits_runesOf s
      unfold fitsM at hf ⊢
      rw [List.all_eq_true] at hf ⊢
      exact fun x hx => hf x (List.mem_of_mem_take hx)
    have htl : ((runesOf s).take (j + 1)).length = j + 1 := by rw [List.length_take]; omega
    have htx := Text_ok ((runesOf s).take (j + 1)) A c (w := W3) hfit (by omega) (Kd.C.takes HCA.out (j + 1))
    rw [htl] at htx
    obtain ⟨t, ht⟩ : ∃ t, t = runesBytes ((runesOf s).take (j + 1)) := ⟨_, rfl⟩
    rw [← ht] at htx
    have hts : t.size ≤ 4 * 3001 := by have := runesBytes_size ((runesOf s).take (j + 1)); rw [ht]; omega
    have htr : runesOf t = (runesOf s).take (j + 1) := by rw [ht]; exact runesOf_bytes hfit
    have hrm := runesOf_mend t more
    have hml := runesOf_len more
    have hsz : (t ++ ⟨#[97]⟩ ++ more).size = t.size + 1 + more.size := by rw [ByteArray.size_append, ByteArray.size_append]; rfl
    have hps2 := fun w2 => Parse_any (t ++ ⟨#[97]⟩ ++ more) (w := w2) (r := .bad j) (by omega) (by rw [hrm, htr, List.length_append, List.length_cons]; omega) (by rw [hrm, htr]; have := parse_front (x := 0) (c := 97) (more := runesOf more) HR.out hjl; exact this)
    have HTX := Lib.hid htx; have HPS2 := Lib.hid hps2
    have b6 : ¬ (9223372036854775807 : Int) < ((t.size : Nat) : Int) := by omega
    clear htx hps2 hfit htl ht htr hrm HOF
    go_upto_region 5 with (fail)
    rw [HW3.out]
    go_wp2_with fail
    refine HTX.out.mono ?_
    rintro e w4 ⟨rfl, hg4⟩
    go_wp2_with fail
    refine (HPS2.out w4).mono ?_
    rintro e w5 ⟨rfl, hg5⟩
    unfold zeroAgg
    obtain ⟨W6, hW6, hb6, hgW6, hWs6⟩ := one_new w5 (.cells #[.int .i64 0, .slice none 0 0, .int .i64 0, .slice none 0 0, .slice none 0 0, .slice none 0 0] 26)
    have hgB := ((hgA.trans hg4).trans hg5).trans hgW6
    have haw := awake_any (HT.out.kept hgB)
    have HAW6 := Lib.hid haw; have HW6 := Lib.hid hW6
    clear haw hW6 hb6 HAW
    go_upto_region 16 with (fail)
    rw [HW6.out]
    go_wp2_with fail
    refine HAW6.out.mono ?_
    rintro e w7 ⟨rfl, hg7⟩
    go_wp2_with fail
    go_ret
    exact ⟨rfl, hgB.trans hg7⟩
set_option maxRecDepth 100000 in
set_option maxHeartbeats 1000000 in
theorem Faults_ok (s more : ByteArray) {w : World} (hT : Tabs w) (h1 : s.size ≤ 3000) (h2 : more.size ≤ 3000) (n : Rc) (j : Nat) (hr : parseM (runesOf s) = some (.ok n j)) : Calls Tryz.prog 6 #[.string s, .string more] w (TrueG w) := by
  have HT := Lib.hid hT
  have hlen := runesOf_len s
  have b1 : ¬ (3000 : Int) < (s.size : Int) := by omega
  have b2 : ¬ (3000 : Int) < (more.size : Int) := by omega
  have hof := Of_typed s w (by omega)
  have HOF := Lib.hid hof
  have hps := fun w2 => Parse_any s (w := w2) (r := .ok n j) (by omega) (by omega) hr
  have HPS := Lib.hid hps
  have hnn : ∀ k, k < (runesOf s).length → sym (runesOf s) k ≠ -1 := by
    intro k hk
    have hf := fits_runesOf s
    unfold fitsM at hf
    have := List.all_eq_true.1 hf _ (List.getElem_mem hk)
    have e : sym (runesOf s) k = (runesOf s)[k] := by simp [sym, List.getD_eq_getElem?_getD, List.getElem?_eq_getElem hk]
    rw [e]; intro h; rw [h] at this; exact absurd this (by decide)
  have hbr := parse_brackets hnn hr
  have hsz : (⟨#[40]⟩ ++ s ++ ⟨#[41]⟩ : ByteArray).size = 1 + s.size + 1 := by rw [ByteArray.size_append, ByteArray.size_append]; rfl
  have hrb := runesOf_bracket s
  have hps2 := fun r (h : parseM (40 :: (runesOf s ++ [41])) = some r) w2 => Parse_any (⟨#[40]⟩ ++ s ++ ⟨#[41]⟩) (w := w2) (r := r) (by omega) (by rw [hrb]; simp; omega) (by rw [hrb]; exact h)
  have HPS2 := Lib.hid hps2
  have hsm := Same_any (SizeOf.sizeOf n) n (Nat.le_refl _)
  have HSM := Lib.hid hsm
  have HBR := Lib.hid hbr
  clear hT hof hps hr hbr hps2 hrb hnn hsm
  obtain ⟨kd, set, by_, r, wt, l⟩ := n
  go_enter Tryz.func6, Tryz.ntmps6
  go_wp2_with fail
  refine HOF.out.mono ?_
  rintro e w1 ⟨A, c, rfl, hc, hA, hg1, _⟩
  clear hA
  go_wp2_with fail
  refine (HPS.out w1).mono ?_
  rintro e w2 ⟨u, rfl, hu, hg2⟩
  obtain ⟨A1, c1, A3, c3, A4, c4, A5, c5, rfl, _⟩ := RcV.cells' hu
  have HU := Lib.hid hu
  obtain ⟨W3, hW3, hb3, hgW3, hWs3⟩ := one_new w2 (.cells #[.int .i64 kd, .slice A1 set.length c1, .int .i64 by_, .slice A3 r.length c3, .slice A4 wt.length c4, .slice A5 l.length c5] 26)
  have hg13 := hg2.trans hgW3
  have hgA := hg1.trans hg13
  have HW3 := Lib.hid hW3; have B3 := Lib.hid hb3
  clear hu hW3 hb3 HOF HPS
  go_upto_region 5 with (fail)
  rw [HW3.out]
  rcases HBR.out with ⟨q, hq⟩ | ⟨q, hq⟩
  · have hp := HPS2.out _ hq W3
    have HP := Lib.hid hp
    clear hp hq
    go_wp2_with fail
    refine HP.out.mono ?_
    rintro e w4 ⟨rfl, hg4⟩
    unfold zeroAgg
    obtain ⟨W5, hW5, hb5, hgW5, hWs5⟩ := one_new w4 (.cells #[.int .i64 0, .slice none 0 0, .int .i64 0, .slice none 0 0, .slice none 0 0, .slice none 0 0] 26)
    have hgB := (hgA.trans hg4).trans hgW5
    have haw := awake_any (HT.out.kept hgB)
    have HAW := Lib.hid haw; have HW5 := Lib.hid hW5
    clear haw hW5 hb5
    go_upto_region 7 with (fail)
    rw [HW5.out]
    go_wp2_with fail
    refine HAW.out.mono ?_
    rintro e w7 ⟨rfl, hg7⟩
    go_wp2_with fail
    go_ret
    exact ⟨rfl, hgB.trans hg7⟩
  · have hp := HPS2.out _ hq W3
    have HP := Lib.hid hp
    clear hp hq
    go_wp2_with fail
    refine HP.out.mono ?_
    rintro e w4 ⟨v, rfl, hv, hg4⟩
    obtain ⟨E1, d1, E3, d3, E4, d4, E5, d5, rfl, _⟩ := RcV.cells' hv
    have HV := Lib.hid hv
    obtain ⟨W5, hW5, hb5, hgW5, hWs5⟩ := one_new w4 (.cells #[.int .i64 kd, .slice E1 set.length d1, .int .i64 by_, .slice E3 r.length d3, .slice E4 wt.length d4, .slice E5 l.length d5] 26)
    have hg35 := hg4.trans hgW5
    have hgB := hgA.trans hg35
    have hsA := hgA.size; have hs35 := hg35.size; have hs3 := hgW3.size; have hs4 := hg4.size
    have hbx := (hg35.block w2.heap.size (by omega) (by simp)).trans B3.out
    have x0 := cells_at hbx 0; have x1 := cells_at hbx 1; have x2 := cells_at hbx 2; have x3 := cells_at hbx 3; have x4 := cells_at hbx 4; have x5 := cells_at hbx 5
    have y0 := cells_at hb5 0; have y1 := cells_at hb5 1; have y2 := cells_at hb5 2; have y3 := cells_at hb5 3; have y4 := cells_at hb5 4; have y5 := cells_at hb5 5
    simp at x0 x1 x2 x3 x4 x5 y0 y1 y2 y3 y4 y5
    have hsame := HSM.out (fresh w1 w2) (fresh W3 w4) _ _ W5 (fun k hk => by have := hk.2; omega) (fun k hk => by have := hk.2; omega)
      (RcV.stp (fun k hk => ⟨hk, (hgW3.trans hg35).block k hk.2 (by simp)⟩) HU.out) (RcV.stp (fun k hk => ⟨hk, hgW5.block k hk.2 (by simp)⟩) HV.out)
    have HSA := Lib.hid hsame
    have HW5 := Lib.hid hW5
    clear hsame hW5 hb5 hbx hv
    go_upto_region 7 with (fail)
    rw [HW5.out]
    go_wp2_with fail
    refine HSA.out.mono ?_
    rintro e w6 ⟨rfl, hg6⟩
    have hgC := hgB.trans hg6
    have haw := awake_any (HT.out.kept hgC)
    have HAW := Lib.hid haw
    clear haw x0 x1 x2 x3 x4 x5 y0 y1 y2 y3 y4 y5
    go_wp2_with fail
    refine HAW.out.mono ?_
    rintro e w7 ⟨rfl, hg7⟩
    go_wp2_with fail
    go_ret
    exact ⟨rfl, hgC.trans hg7⟩
theorem RecipeFaults_any (s more : ByteArray) {w : World} (hT : Tabs w) : Calls Tryz.prog 6 #[.string s, .string more] w (TrueG w) := by
  by_cases h : 3000 < s.size ∨ 3000 < more.size
  · exact Faults_long s more hT h
  · obtain ⟨r, hr, hf⟩ := parseM_tot (runesOf s)
    cases r with
    | ok n j => exact Faults_ok s more hT (by omega) (by omega) n j hr
    | bad j => exact Faults_bad s more hT (by omega) (by omega) j hr hf
end Go.Proofs.YtocfmjiollafaaaGreatDoor
