import Derived.Test.YtocfmjiollafaaaGreatDoorPar
namespace Go.Proofs.YtocfmjiollafaaaGreatDoor
open Go.RowKit
set_option linter.unusedVariables false
set_option linter.unusedSimpArgs false
theorem Rd.putDeepz {rb : Nat} {l : List Int} {i deep : Nat} {w : World} (h : Rd rb l i deep w) (z : Int) (j : Nat) (hz : z = (j : Int)) (hj : j ≤ 64) : Rd rb l i j (w.setCell ⟨rb, 2, none⟩ (.int .i64 z)) := by
  subst hz; exact h.putDeep j hj
set_option maxRecDepth 100000 in
set_option maxHeartbeats 4000000 in
theorem atom_any {rb : Nat} {l : List Int} {i deep : Nat} {w : World} {r : Pr Atm} (alt : Nat → Nat → Option (Pr Rc))
    (HA : ∀ i' w' r', Rd rb l i' (deep + 1) w' → alt i' (deep + 1) = some r' → Calls Tryz.prog 27 #[.pointer (some ⟨rb, 0, none⟩)] w' (PrPost rb l (deep + 1) w' (RcF w') r'))
    (h : Rd rb l i deep w) (hr : atomM alt l i deep = some r) :
    Calls Tryz.prog 68 #[.pointer (some ⟨rb, 0, none⟩)] w (PrPost rb l deep w (AtmF w) r) := by
  obtain ⟨A, c, hrb, hlc, hl, hi, hd, hC, c0, c1, c2, f1, f2⟩ := h.cells
  have H := Lib.hid h
  clear h hC
  by_cases h40 : sym l i = 40
  · have b40 : (sym l i == 40) = true := by simpa using h40
    have hil := sym_lt h40 (by decide)
    unfold atomM at hr
    rw [if_pos h40] at hr
    by_cases h64 : deep = 64
    · rw [if_pos h64] at hr
      have HR := Lib.hid (Option.some.inj hr)
      have b64 : ((deep : Int) == 64) = true := by simp [h64]
      have H64 := Lib.hid h64
      clear hr h40 HA h64
      go_enter Tryz.func68, Tryz.ntmps68
      go_wp2_with (first
        | (go_at_call 28; refine (next_any H.out).mono ?_; rintro e w' ⟨rfl, n, rfl⟩)
        | (go_at_call 29; refine (fail_any (H.out.drewN _)).mono ?_; rintro e w' ⟨rfl, hg2⟩))
      refine ⟨rfl, ?_⟩
      rw [← HR.out]
      exact ⟨rfl, (grown_drewN _ _ _).trans hg2⟩
    · rw [if_neg h64] at hr
      have b64 : ((deep : Int) == 64) = false := by simp; omega
      obtain ⟨rr, hrr, hre⟩ : ∃ rr, alt (i + 1) (deep + 1) = some rr ∧ (match rr with | .bad j => some (Pr.bad j) | .ok n j => if sym l j = 41 then some (.ok (.nd n) (j + 1)) else some (.bad j)) = some r := by
        cases h : alt (i + 1) (deep + 1) with
        | none => rw [h] at hr; cases hr
        | some rr => rw [h] at hr; refine ⟨rr, rfl, ?_⟩; cases rr <;> exact hr
      have HRR := Lib.hid hrr; have HR := Lib.hid hre
      have HAA := Lib.hid HA
      clear hr h40 HA hrr hre
      go_enter Tryz.func68, Tryz.ntmps68
      go_wp2_with (first
        | (go_at_call 28; refine (next_any H.out).mono ?_; rintro e w' ⟨rfl, n, rfl⟩))
      have R2 := Lib.hid (((H.out.drewN n).putz ((i : Int) + 1) (i + 1) (by omega) hil).putDeepz ((deep : Int) + 1) (deep + 1) (by omega) (by omega))
      have hg2 : w.grownBy (((w.drewN n).setCell ⟨rb, 1, none⟩ (.int .i64 ((i : Int) + 1))).setCell ⟨rb, 2, none⟩ (.int .i64 ((deep : Int) + 1))) (some rb) := ((grown_drewN w n _).trans (grown_setCell _ ⟨rb, 1, none⟩ _)).trans (grown_setCell _ ⟨rb, 2, none⟩ _)
      have hs2 := hg2.size
      have hcl := HAA.out (i + 1) _ rr R2.out HRR.out
      cases rr with
      | bad q =>
        refine hcl.mono ?_
        rintro e w7 ⟨rfl, hg8⟩
        have hbd := Option.some.inj HR.out
        go_wp2_with fail
        refine ⟨rfl, ?_⟩
        rw [← hbd]
        exact ⟨rfl, hg2.trans hg8⟩
      | ok x q =>
        refine hcl.mono ?_
        rintro e w7 ⟨v, rfl, hV, hR, hg8⟩
        obtain ⟨k, A1, n1, c1', b, A3, n3, c3, A4, n4, c4, A5, n5, c5, rfl⟩ := hV.six
        have hg9 := hg2.trans hg8
        have hs8 := hg8.size
        obtain ⟨W, hW, hb2, hgW, hWs⟩ := one_new w7 (.cells #[.int .i64 k, .slice A1 n1 c1', .int .i64 b, .slice A3 n3 c3, .slice A4 n4 c4, .slice A5 n5 c5] 26)
        have R7 := Lib.hid (hR.kept hgW)
        have HV := Lib.hid hV
        have HW := Lib.hid hW
        have hrb7 : rb < w7.heap.size := hR.cells.choose_spec.choose_spec.1
        have hg10 := hg9.trans (grown_any hgW (some rb))
        clear hR hV hcl hW
        by_cases h41 : sym l q = 41
        · have hrr : Hid (Pr.ok (.nd x) (q + 1) = r) := by
            have := HR.out
            simp only [if_pos h41] at this
            exact Option.some.inj this
          have H41 := Lib.hid h41
          clear h41
          go_wp2_with fail
          rw [HW.out]
          refine (must_yes R7.out 41 H41.out (by decide)).mono ?_
          rintro e w8 ⟨_, rfl, rfl, hR8, hg11⟩
          have hb8 := (hg11.block w7.heap.size (by omega) (by intro e; have := Option.some.inj e; omega)).trans hb2
          obtain ⟨A9, c9, p1, p2, p3, p4, p5, p6, p7, p8, p9, p10, p11⟩ := hR8.cells
          have R8 := Lib.hid hR8
          clear hR8 p6
          have hg12 : w8.grownBy (w8.setCell ⟨rb, 2, none⟩ (.int .i64 (deep : Int))) (some rb) := grown_setCell _ ⟨rb, 2, none⟩ _
          have hb9 := (hg12.block w7.heap.size (by have := (Array.getElem?_eq_some_iff.1 hb8).1; exact this) (by intro e; have := Option.some.inj e; omega)).trans hb8
          have k0 := cells_at hb9 0; have k1 := cells_at hb9 1; have k2 := cells_at hb9 2; have k3 := cells_at hb9 3; have k4 := cells_at hb9 4; have k5 := cells_at hb9 5
          simp at k0 k1 k2 k3 k4 k5
          have G12 := Lib.hid hg12; have G11 := Lib.hid hg11
          clear hg12 hg11 hb9 hb8
          go_wp2_with fail
          go_ret
          rw [← hrr.out]
          refine ⟨_, rfl, ⟨_, rfl, RcV.step (fun k hk => ?_) HV.out⟩, R8.out.putDeepz _ deep (by omega) (by omega), hg10.trans (G11.out.trans G12.out)⟩
          have h1 := hgW.block k hk.2 (by simp)
          have h2 : k < W.heap.size := Nat.lt_of_lt_of_le hk.2 hgW.size
          have hkr : some k ≠ some rb := by intro e; have := Option.some.inj e; have := hk.1; omega
          have h3 := G11.out.block k h2 hkr
          have h4 := G12.out.block k (Nat.lt_of_lt_of_le h2 G11.out.size) hkr
          exact ⟨⟨Nat.le_trans hs2 hk.1, Nat.lt_of_lt_of_le (Nat.lt_of_lt_of_le h2 G11.out.size) G12.out.size⟩, h4.trans (h3.trans h1)⟩
        · have hrr : Hid (Pr.bad q = r) := by
            have := HR.out
            simp only [if_neg h41] at this
            exact Option.some.inj this
          have H41 := Lib.hid h41
          clear h41
          go_wp2_with fail
          rw [HW.out]
          refine (must_no R7.out 41 H41.out).mono ?_
          rintro e w8 ⟨rfl, hg11⟩
          go_wp2_with fail
          refine ⟨rfl, ?_⟩
          rw [← hrr.out]
          exact ⟨rfl, hg10.trans hg11⟩
  have b40 : (sym l i == 40) = false := by simpa using h40
  by_cases h46 : sym l i = 46
  · have b46 : (sym l i == 46) = true := by simpa using h46
    have hil := sym_lt h46 (by decide)
    unfold atomM at hr
    rw [if_neg h40, if_pos h46] at hr
    have HR := Lib.hid (Option.some.inj hr)
    clear hr h40 h46 HA
    have hScal : ∀ w, Calls Tryz.prog 54 #[.int .i64 2] w (SlNew kSp w allS) := Scalars_new
    have hal : allS.length = 2 := rfl
    go_enter Tryz.func68, Tryz.ntmps68
    go_wp2_with (first
      | (go_at_call 28; refine (next_any H.out).mono ?_; rintro e w' ⟨rfl, n, rfl⟩))
    have R1 := Lib.hid ((H.out.drewN n).putz ((i : Int) + 1) (i + 1) (by omega) hil)
    have hg1 : w.grownBy ((w.drewN n).setCell ⟨rb, 1, none⟩ (.int .i64 ((i : Int) + 1))) (some rb) := (grown_drewN w n _).trans (grown_setCell _ ⟨rb, 1, none⟩ _)
    refine (hScal _).mono ?_
    rintro e w3 ⟨A3, c3, rfl, hc3, hC3, hg3⟩
    have R3 := Lib.hid (R1.out.kept hg3)
    have hN3 := fresh_but (w' := w3) R1.out.cells.choose_spec.choose_spec.1
    have C3 := Lib.hid hC3
    have G3 := Lib.hid (hg1.trans (grown_any hg3 (some rb)))
    have hs := hg1.size
    clear hC3 hg3
    cases hB : behindM l (i + 1) allS with
    | bad q =>
      have HB := Lib.hid hB
      clear hB
      go_wp2_with fail
      refine (behind_bad hN3 HB (by omega) C3.out R3.out).mono ?_
      rintro e w7 ⟨rfl, hg8⟩
      go_wp2_with fail
      refine ⟨rfl, ?_⟩
      rw [← HR.out, HB.out]
      exact ⟨rfl, G3.out.trans hg8⟩
    | ok x q =>
      have HB := Lib.hid hB
      clear hB
      go_wp2_with fail
      refine (behind_ok hN3 HB (by omega) C3.out R3.out).mono ?_
      rintro e w7 ⟨v, rfl, hV, hR, hg8⟩
      have R7 := Lib.hid hR
      have HV := Lib.hid hV
      have hs8 := hg8.size
      clear hR hV
      go_wp2_with fail
      go_ret
      rw [← HR.out, HB.out]
      exact ⟨_, rfl, ⟨v, rfl, RcV.step (fun k hk => ⟨⟨Nat.le_trans hs hk.1, Nat.lt_of_lt_of_le hk.2 hs8⟩, rfl⟩) HV.out⟩, R7.out, G3.out.trans hg8⟩
  have b46 : (sym l i == 46) = false := by simpa using h46
  by_cases h91 : sym l i = 91
  · have b91 : (sym l i == 91) = true := by simpa using h91
    have hil := sym_lt h91 (by decide)
    unfold atomM at hr
    rw [if_neg h40, if_neg h46, if_pos h91] at hr
    obtain ⟨rr, hrr, hre⟩ : ∃ rr, classM (l.length + 1) l (i + 1) = some rr ∧ rr.map .nd = r := by
      cases h : classM (l.length + 1) l (i + 1) with
      | none => rw [h] at hr; cases hr
      | some rr => rw [h] at hr; exact ⟨rr, rfl, Option.some.inj hr⟩
    have HRR := Lib.hid hrr; have HR := Lib.hid hre
    clear hr h40 h46 h91 HA hrr hre
    go_enter Tryz.func68, Tryz.ntmps68
    go_wp2_with (first
      | (go_at_call 28; refine (next_any H.out).mono ?_; rintro e w' ⟨rfl, n, rfl⟩))
    have R1 := Lib.hid ((H.out.drewN n).putz ((i : Int) + 1) (i + 1) (by omega) hil)
    have hg1 : w.grownBy ((w.drewN n).setCell ⟨rb, 1, none⟩ (.int .i64 ((i : Int) + 1))) (some rb) := (grown_drewN w n _).trans (grown_setCell _ ⟨rb, 1, none⟩ _)
    have hs := hg1.size
    have hcl := class_any (l.length + 1) R1.out HRR.out
    cases rr with
    | bad q =>
      refine hcl.mono ?_
      rintro e w7 ⟨rfl, hg8⟩
      go_wp2_with fail
      refine ⟨rfl, ?_⟩
      rw [← HR.out]
      exact ⟨rfl, hg1.trans hg8⟩
    | ok x q =>
      refine hcl.mono ?_
      rintro e w7 ⟨v, rfl, hV, hR, hg8⟩
      have R7 := Lib.hid hR
      have HV := Lib.hid hV
      have hs8 := hg8.size
      clear hR hV hcl
      go_wp2_with fail
      go_ret
      rw [← HR.out]
      exact ⟨_, rfl, ⟨v, rfl, RcV.step (fun k hk => ⟨⟨Nat.le_trans hs hk.1, hk.2⟩, rfl⟩) HV.out⟩, R7.out, hg1.trans hg8⟩
  have b91 : (sym l i == 91) = false := by simpa using h91
  by_cases h123 : sym l i = 123
  · have b123 : (sym l i == 123) = true := by simpa using h123
    have hil := sym_lt h123 (by decide)
    unfold atomM at hr
    rw [if_neg h40, if_neg h46, if_neg h91, if_pos h123] at hr
    obtain ⟨pr, hpr, hre⟩ : ∃ pr, pairM l (i + 1) = some pr ∧ pr.map .nd = r := by
      cases h : pairM l (i + 1) with
      | none => rw [h] at hr; cases hr
      | some pr => rw [h] at hr; exact ⟨pr, rfl, Option.some.inj hr⟩
    obtain ⟨r1, hr1, hre1⟩ : ∃ r1, lettersM (l.length + 1) l (i + 1) [] = some r1 ∧ (match r1 with
        | .bad j => some (.bad j)
        | .ok r j => if sym l j = 62 then
            match lettersM (l.length + 1) l (j + 1) [] with
            | none => none
            | some (.bad m) => some (.bad m)
            | some (.ok w m) => if sym l m = 125 then some (.ok (kPair r w) (m + 1)) else some (.bad m)
          else some (.bad j)) = some pr := by
      unfold pairM at hpr
      cases h : lettersM (l.length + 1) l (i + 1) [] with
      | none => rw [h] at hpr; cases hpr
      | some r1 => rw [h] at hpr; refine ⟨r1, rfl, ?_⟩; cases r1 <;> exact hpr
    have HL1 := Lib.hid hr1; have HR1 := Lib.hid hre1; have HR := Lib.hid hre
    clear hr h40 h46 h91 h123 HA hpr hre hr1 hre1
    go_enter Tryz.func68, Tryz.ntmps68
    go_wp2_with (first
      | (go_at_call 28; refine (next_any H.out).mono ?_; rintro e w' ⟨rfl, n, rfl⟩))
    have R1 := Lib.hid ((H.out.drewN n).putz ((i : Int) + 1) (i + 1) (by omega) hil)
    have hg1 : w.grownBy ((w.drewN n).setCell ⟨rb, 1, none⟩ (.int .i64 ((i : Int) + 1))) (some rb) := (grown_drewN w n _).trans (grown_setCell _ ⟨rb, 1, none⟩ _)
    have hs := hg1.size
    have hcl := letters_any (l.length + 1) R1.out HL1.out
    cases r1 with
    | bad q =>
      refine hcl.mono ?_
      rintro e w7 ⟨rfl, hg8⟩
      have hbd := Option.some.inj HR1.out
      go_wp2_with fail
      refine ⟨rfl, ?_⟩
      rw [← HR.out, ← hbd]
      exact ⟨rfl, hg1.trans hg8⟩
    | ok x q =>
      refine hcl.mono ?_
      rintro e w7 ⟨_, rfl, ⟨A1, c1', rfl, hc1, hC1⟩, hR, hg8⟩
      have hg9 := hg1.trans hg8
      have hs8 := hg8.size
      obtain ⟨W, hW, hb2, hgW, hWs⟩ := one_new w7 (.cells #[.int .i64 3, .slice none 0 0, .int .i64 0, .slice A1 x.length c1', .slice none 0 0, .slice none 0 0] 26)
      have R7 := Lib.hid (hR.kept hgW)
      have C1 := Lib.hid hC1
      have HW := Lib.hid hW
      have hrb7 : rb < w7.heap.size := hR.cells.choose_spec.choose_spec.1
      have hg10 := hg9.trans (grown_any hgW (some rb))
      clear hR hcl hW hC1
      by_cases h62 : sym l q = 62
      · have HR2 : Hid ((match lettersM (l.length + 1) l (q + 1) [] with
            | none => none
            | some (.bad m) => some (.bad m)
            | some (.ok w m) => if sym l m = 125 then some (.ok (kPair x w) (m + 1)) else some (.bad m)) = some pr) := by
          have := HR1.out
          simp only [if_pos h62] at this
          exact this
        have H62 := Lib.hid h62
        clear h62
        go_wp2_with fail
        rw [HW.out]
        refine (must_yes R7.out 62 H62.out (by decide)).mono ?_
        rintro e w8 ⟨_, rfl, rfl, hR8, hg11⟩
        go_wp2_with fail
        obtain ⟨r2, hr2, hre2⟩ : ∃ r2, lettersM (l.length + 1) l (q + 1) [] = some r2 ∧ (match r2 with
            | .bad m => some (Pr.bad m)
            | .ok w m => if sym l m = 125 then some (.ok (kPair x w) (m + 1)) else some (.bad m)) = some pr := by
          have := HR2.out
          cases h : lettersM (l.length + 1) l (q + 1) [] with
          | none => rw [h] at this; cases this
          | some r2 => rw [h] at this; refine ⟨r2, rfl, ?_⟩; cases r2 <;> exact this
        have HL2 := Lib.hid hr2; have HR3 := Lib.hid hre2
        have hcl2 := letters_any (l.length + 1) hR8 HL2.out
        have hg12 := hg10.trans hg11
        have hb8 := (hg11.block w7.heap.size (by omega) (by intro e; have := Option.some.inj e; omega)).trans hb2
        clear hr2 hre2 hR8 HR2
        cases r2 with
        | bad m =>
          refine hcl2.mono ?_
          rintro e w9 ⟨rfl, hg13⟩
          have hbd := Option.some.inj HR3.out
          go_wp2_with fail
          refine ⟨rfl, ?_⟩
          rw [← HR.out, ← hbd]
          exact ⟨rfl, hg12.trans hg13⟩
        | ok y m =>
          refine hcl2.mono ?_
          rintro e w9 ⟨_, rfl, ⟨A2, c2', rfl, hc2, hC2⟩, hR9, hg13⟩
          have hb9 := (hg13.block w7.heap.size (by have := (Array.getElem?_eq_some_iff.1 hb8).1; exact this) (by intro e; have := Option.some.inj e; omega)).trans hb8
          have kk := cells_at hb9 4
          simp at kk
          have hg14 : w9.grownBy (w9.setCell ⟨w7.heap.size, 4, none⟩ (.slice A2 y.length c2')) (some w7.heap.size) := grown_setCell _ ⟨w7.heap.size, 4, none⟩ _
          have hb10 := cells_set hb9 4 (.slice A2 y.length c2')
          have R10 := Lib.hid (hR9.keptO hg14 (by intro k hk; cases hk; exact hrb7))
          have C2 := Lib.hid hC2
          have B9 := Lib.hid hb9
          clear hR9 hC2 hb9 hb8 hcl2
          go_wp2_with fail
          have hg15 := grown_own (hg12.trans hg13) hg14 (by intro k hk; cases hk; exact Nat.le_trans hs hs8)
          by_cases h125 : sym l m = 125
          · have hrr : Hid (Pr.ok (kPair x y) (m + 1) = pr) := by
              have := HR3.out
              simp only [if_pos h125] at this
              exact Option.some.inj this
            refine (must_yes R10.out 125 h125 (by decide)).mono ?_
            rintro e w10 ⟨_, rfl, rfl, hR11, hg16⟩
            have hb11 := (hg16.block w7.heap.size (by have := (Array.getElem?_eq_some_iff.1 hb10).1; exact this) (by intro e; have := Option.some.inj e; omega)).trans hb10
            have k0 := cells_at hb11 0; have k1 := cells_at hb11 1; have k2 := cells_at hb11 2; have k3 := cells_at hb11 3; have k4 := cells_at hb11 4; have k5 := cells_at hb11 5
            simp at k0 k1 k2 k3 k4 k5
            have R11 := Lib.hid hR11
            clear hR11 hb10 hb11 kk
            go_wp2_with fail
            go_ret
            rw [← HR.out, ← hrr.out]
            have hsz1 := hgW.size
            have hsz2 := hg11.size
            have hsz3 := hg13.size
            have hsz4 := hg14.size
            have hsz5 := hg16.size
            refine ⟨_, rfl, ⟨_, rfl, _, rfl, kRc_iff.2 ⟨none, 0, _, _, _, _, none, 0, rfl, by decide, by decide, ⟨Nat.le_refl _, Kd.C_nil _ _ _ _⟩, ⟨hc1, C1.out.step fun k hk => ?_⟩, ⟨hc2, C2.out.step fun k hk => ?_⟩, ⟨Nat.le_refl _, Kd.C_nil _ _ _ _⟩⟩⟩, R11.out, hg15.trans hg16⟩
            · have h1 := hk.1; have h2 := hk.2
              have hkr : some k ≠ some rb := by intro e; have := Option.some.inj e; omega
              refine ⟨⟨by omega, by omega⟩, ?_⟩
              rw [hg16.block k (by omega) hkr, hg14.block k (by omega) (by intro e; have := Option.some.inj e; omega), hg13.block k (by omega) hkr, hg11.block k (by omega) hkr, hgW.block k h2 (by simp)]
            · have h1 := hk.1; have h2 := hk.2
              have hkr : some k ≠ some rb := by intro e; have := Option.some.inj e; omega
              refine ⟨⟨by omega, by omega⟩, ?_⟩
              rw [hg16.block k (by omega) hkr, hg14.block k (by omega) (by intro e; have := Option.some.inj e; omega)]
          · have hrr : Hid (Pr.bad m = pr) := by
              have := HR3.out
              simp only [if_neg h125] at this
              exact Option.some.inj this
            refine (must_no R10.out 125 h125).mono ?_
            rintro e w10 ⟨rfl, hg16⟩
            go_wp2_with fail
            refine ⟨rfl, ?_⟩
            rw [← HR.out, ← hrr.out]
            exact ⟨rfl, hg15.trans hg16⟩
      · have hrr : Hid (Pr.bad q = pr) := by
          have := HR1.out
          simp only [if_neg h62] at this
          exact Option.some.inj this
        have H62 := Lib.hid h62
        clear h62
        go_wp2_with fail
        rw [HW.out]
        refine (must_no R7.out 62 H62.out).mono ?_
        rintro e w8 ⟨rfl, hg11⟩
        go_wp2_with fail
        refine ⟨rfl, ?_⟩
        rw [← HR.out, ← hrr.out]
        exact ⟨rfl, hg10.trans hg11⟩
  have b123 : (sym l i == 123) = false := by simpa using h123
  unfold atomM at hr
  rw [if_neg h40, if_neg h46, if_neg h91, if_neg h123] at hr
  have HR := Lib.hid (Option.some.inj hr)
  clear hr h40 h46 h91 h123 HA
  cases hN : letterM l true i with
  | bad j =>
    have HN := Lib.hid hN
    clear hN
    go_enter Tryz.func68, Tryz.ntmps68
    go_wp2_with (first
      | (go_at_call 28; refine (next_any H.out).mono ?_; rintro e w' ⟨rfl, n, rfl⟩)
      | (go_at_call 82; refine (letter_bad true HN (H.out.drewN _)).mono ?_; rintro e w3 ⟨rfl, hg3⟩))
    refine ⟨rfl, ?_⟩
    rw [← HR.out, HN.out]
    exact ⟨rfl, (grown_drewN _ _ _).trans hg3⟩
  | ok x j =>
    have HN := Lib.hid hN
    clear hN
    go_enter Tryz.func68, Tryz.ntmps68
    go_wp2_with (first
      | (go_at_call 28; refine (next_any H.out).mono ?_; rintro e w' ⟨rfl, n, rfl⟩)
      | (go_at_call 82; refine (letter_ok true HN (H.out.drewN _)).mono ?_; rintro e w3 ⟨_, rfl, ⟨rfl, hx⟩, hr3, hg3⟩; have R3 := Lib.hid hr3; clear hr3))
    go_ret
    rw [← HR.out, HN.out]
    exact ⟨_, rfl, ⟨rfl, hx⟩, R3.out, (grown_drewN _ _ _).trans hg3⟩
end Go.Proofs.YtocfmjiollafaaaGreatDoor
