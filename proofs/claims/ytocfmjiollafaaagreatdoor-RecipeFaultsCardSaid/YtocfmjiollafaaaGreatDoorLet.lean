import Derived.Test.YtocfmjiollafaaaGreatDoorNum
namespace Go.Proofs.YtocfmjiollafaaaGreatDoor
open Go.RowKit
set_option linter.unusedVariables false
set_option linter.unusedSimpArgs false
theorem number_ok {rb : Nat} {l : List Int} {i deep : Nat} {w : World} {x : Int} {j : Nat} (hn : Hid (numberM l i = .ok x j)) (h : Rd rb l i deep w) : Calls Tryz.prog 101 #[.pointer (some ⟨rb, 0, none⟩)] w (RdOk rb l j deep w (RuneV x)) := by
  have := number_any h; rw [hn.out] at this; exact this
theorem number_bad {rb : Nat} {l : List Int} {i deep : Nat} {w : World} {j : Nat} (hn : Hid (numberM l i = .bad j)) (h : Rd rb l i deep w) : Calls Tryz.prog 101 #[.pointer (some ⟨rb, 0, none⟩)] w (RdBad rb j w) := by
  have := number_any h; rw [hn.out] at this; exact this
theorem Rd.next {rb : Nat} {l : List Int} {i deep : Nat} {w : World} (h : Rd rb l i deep w) (n : Nat) (hi : i < l.length) (z : Int) (hz : z = ((i + 1 : Nat) : Int)) : Rd rb l (i + 1) deep ((w.drewN n).setCell ⟨rb, 1, none⟩ (.int .i64 z)) := (h.drewN n).putz z _ hz hi
theorem grown_next (w : World) (n rb : Nat) (z : Int) : w.grownBy ((w.drewN n).setCell ⟨rb, 1, none⟩ (.int .i64 z)) (some rb) := (grown_drewN w n _).trans (grown_setCell _ _ _)
set_option maxHeartbeats 2000000 in
theorem escaped_any {rb : Nat} {l : List Int} {i deep : Nat} {w : World} (h : Rd rb l i deep w) :
    Calls Tryz.prog 89 #[.pointer (some ⟨rb, 0, none⟩)] w (PrPost rb l deep w RuneV (escapedM l i)) := by
  obtain ⟨A, c, hrb, hlc, hl, hi, hd, hC, c0, c1, c2, f1, f2⟩ := h.cells
  have hsr := h.sym_range i
  have H := Lib.hid h; clear h hC
  by_cases h1 : sym l i = 110
  · have hlt := sym_lt h1 (by decide)
    have b1 : (sym l i == 110) = true := by simpa using h1
    have HN : Hid (escapedM l i = .ok 10 (i + 1)) := by show _ = _; unfold escapedM; rw [if_pos h1]
    clear h1 hsr
    go_enter Tryz.func89, Tryz.ntmps89
    go_wp2_with (go_at_call 28; refine (next_any H.out).mono ?_; rintro e w' ⟨rfl, n, rfl⟩)
    go_ret
    rw [HN.out]
    exact RdOk.put H.out n (i + 1) _ (by omega) (by omega) ⟨rfl, by decide⟩
  · have b1 : (sym l i == 110) = false := by simpa using h1
    by_cases h2 : sym l i = 117
    · have hlt := sym_lt h2 (by decide)
      have b2 : (sym l i == 117) = true := by simpa using h2
      by_cases h3 : sym l (i + 1) = 123
      · have HN : Hid (escapedM l i = numberM l (i + 2)) := by show _ = _; unfold escapedM; rw [if_neg h1, if_pos h2, if_pos h3]
        have H3 := Lib.hid h3
        clear h1 h2 h3 hsr
        cases hN : numberM l (i + 2) with
        | ok x j =>
          have HN2 := Lib.hid hN
          clear hN
          go_enter Tryz.func89, Tryz.ntmps89
          go_wp2_with (first
            | (go_at_call 28; refine (next_any H.out).mono ?_; rintro e w' ⟨rfl, n, rfl⟩)
            | (go_at_call 78; refine (must_yes (H.out.next _ hlt _ (by omega)) 123 H3.out (by decide)).mono ?_; rintro e w2 ⟨_, rfl, rfl, hr2, hg2⟩; have R2 := Lib.hid hr2; clear hr2)
            | (go_at_call 101; refine (number_ok HN2 R2.out).mono ?_; rintro e w3 ⟨_, rfl, ⟨rfl, hx⟩, hr3, hg3⟩))
          go_ret
          rw [HN.out, HN2.out]
          exact ⟨_, rfl, ⟨rfl, hx⟩, hr3, ((grown_next _ _ _ _).trans hg2).trans hg3⟩
        | bad j =>
          have HN2 := Lib.hid hN
          clear hN
          go_enter Tryz.func89, Tryz.ntmps89
          go_wp2_with (first
            | (go_at_call 28; refine (next_any H.out).mono ?_; rintro e w' ⟨rfl, n, rfl⟩)
            | (go_at_call 78; refine (must_yes (H.out.next _ hlt _ (by omega)) 123 H3.out (by decide)).mono ?_; rintro e w2 ⟨_, rfl, rfl, hr2, hg2⟩; have R2 := Lib.hid hr2; clear hr2)
            | (go_at_call 101; refine (number_bad HN2 R2.out).mono ?_; rintro e w3 ⟨rfl, hg3⟩))
          refine ⟨rfl, ?_⟩
          rw [HN.out, HN2.out]
          exact ⟨rfl, ((grown_next _ _ _ _).trans hg2).trans hg3⟩
      · have HN : Hid (escapedM l i = .bad (i + 1)) := by show _ = _; unfold escapedM; rw [if_neg h1, if_pos h2, if_neg h3]
        have H3 := Lib.hid h3
        clear h1 h2 h3 hsr
        go_enter Tryz.func89, Tryz.ntmps89
        go_wp2_with (first
          | (go_at_call 28; refine (next_any H.out).mono ?_; rintro e w' ⟨rfl, n, rfl⟩)
          | (go_at_call 78; refine (must_no (H.out.next _ hlt _ (by omega)) 123 H3.out).mono ?_; rintro e w2 ⟨rfl, hg2⟩))
        refine ⟨rfl, ?_⟩
        rw [HN.out]
        exact ⟨rfl, (grown_next _ _ _ _).trans hg2⟩
    · have b2 : (sym l i == 117) = false := by simpa using h2
      by_cases h4 : sym l i = -1 ∨ isSign (sym l i) = false
      · have HN : Hid (escapedM l i = .bad i) := by show _ = _; unfold escapedM; rw [if_neg h1, if_neg h2, if_pos h4]
        by_cases h5 : sym l i = -1
        · have b3 : (sym l i == -1) = true := by simpa using h5
          clear h1 h2 h4 h5 hsr
          go_enter Tryz.func89, Tryz.ntmps89
          go_wp2_with (first
            | (go_at_call 28; refine (next_any H.out).mono ?_; rintro e w' ⟨rfl, n, rfl⟩)
            | (go_at_call 29; refine (fail_any (H.out.drewN _)).mono ?_; rintro e w' ⟨rfl, hg⟩))
          refine ⟨rfl, ?_⟩
          rw [HN.out]
          exact ⟨rfl, (grown_drewN _ _ _).trans hg⟩
        · have b3 : (sym l i == -1) = false := by simpa using h5
          have b4 : isSign (sym l i) = false := h4.resolve_left h5
          clear h1 h2 h4 h5 hsr
          go_enter Tryz.func89, Tryz.ntmps89
          go_wp2_with (first
            | (go_at_call 28; refine (next_any H.out).mono ?_; rintro e w' ⟨rfl, n, rfl⟩)
            | (go_at_call 75; refine (contains_signs _ _).mono ?_; rintro e w2 ⟨rfl, hg2⟩; have R2 := Lib.hid ((H.out.drewN _).kept hg2))
            | (go_at_call 29; refine (fail_any R2.out).mono ?_; rintro e w' ⟨rfl, hg⟩))
          refine ⟨rfl, ?_⟩
          rw [HN.out]
          exact ⟨rfl, ((grown_drewN _ _ _).trans (grown_any hg2 _)).trans hg⟩
      · have h5 : ¬ sym l i = -1 := fun h => h4 (.inl h)
        have b3 : (sym l i == -1) = false := by simpa using h5
        have b4 : isSign (sym l i) = true := by
          cases hs : isSign (sym l i) with
          | true => rfl
          | false => exact absurd (.inr hs) h4
        have hlt : i < l.length := by
          apply Nat.lt_of_not_le
          intro hle
          exact h5 (by simp [sym, List.getD_eq_getElem?_getD, List.getElem?_eq_none hle])
        have HN : Hid (escapedM l i = .ok (sym l i) (i + 1)) := by show _ = _; unfold escapedM; rw [if_neg h1, if_neg h2, if_neg h4]
        have HS := Lib.hid hsr
        clear h1 h2 h4 h5 hsr
        go_enter Tryz.func89, Tryz.ntmps89
        go_wp2_with (first
          | (go_at_call 28; refine (next_any H.out).mono ?_; rintro e w' ⟨rfl, n, rfl⟩)
          | (go_at_call 75; refine (contains_signs _ _).mono ?_; rintro e w2 ⟨rfl, hg2⟩; have R2 := Lib.hid ((H.out.drewN _).kept hg2); obtain ⟨A2, c3, k1, k2, k3, k4, k5, k6, k7, k8, k9, k10, k11⟩ := R2.out.cells; clear k6))
        go_ret
        rw [HN.out]
        exact ⟨_, rfl, ⟨rfl, HS.out⟩, R2.out.putz _ _ (by omega) hlt, ((grown_drewN _ _ _).trans (grown_any hg2 _)).trans (grown_setCell _ _ _)⟩
theorem escaped_ok {rb : Nat} {l : List Int} {i deep : Nat} {w : World} {x : Int} {j : Nat} (hn : Hid (escapedM l i = .ok x j)) (h : Rd rb l i deep w) : Calls Tryz.prog 89 #[.pointer (some ⟨rb, 0, none⟩)] w (RdOk rb l j deep w (RuneV x)) := by
  have := escaped_any h; rw [hn.out] at this; exact this
theorem escaped_bad {rb : Nat} {l : List Int} {i deep : Nat} {w : World} {j : Nat} (hn : Hid (escapedM l i = .bad j)) (h : Rd rb l i deep w) : Calls Tryz.prog 89 #[.pointer (some ⟨rb, 0, none⟩)] w (RdBad rb j w) := by
  have := escaped_any h; rw [hn.out] at this; exact this
set_option maxHeartbeats 2000000 in
theorem letter_any (also : Bool) {rb : Nat} {l : List Int} {i deep : Nat} {w : World} (h : Rd rb l i deep w) :
    Calls Tryz.prog 82 #[.pointer (some ⟨rb, 0, none⟩), .string (alsoB also)] w (PrPost rb l deep w RuneV (letterM l also i)) := by
  obtain ⟨A, c, hrb, hlc, hl, hi, hd, hC, c0, c1, c2, f1, f2⟩ := h.cells
  have hsr := h.sym_range i
  have H := Lib.hid h; clear h hC
  by_cases h1 : sym l i = 92
  · have hlt := sym_lt h1 (by decide)
    have b1 : (sym l i == 92) = true := by simpa using h1
    have HN : Hid (letterM l also i = escapedM l (i + 1)) := by show _ = _; unfold letterM; rw [if_pos h1]
    clear h1 hsr
    cases hN : escapedM l (i + 1) with
    | ok x j =>
      have HN2 := Lib.hid hN
      clear hN
      go_enter Tryz.func82, Tryz.ntmps82
      go_wp2_with (first
        | (go_at_call 28; refine (next_any H.out).mono ?_; rintro e w' ⟨rfl, n, rfl⟩)
        | (go_at_call 89; refine (escaped_ok HN2 (H.out.next _ hlt _ (by omega))).mono ?_; rintro e w3 ⟨_, rfl, ⟨rfl, hx⟩, hr3, hg3⟩))
      go_ret
      rw [HN.out, HN2.out]
      exact ⟨_, rfl, ⟨rfl, hx⟩, hr3, (grown_next _ _ _ _).trans hg3⟩
    | bad j =>
      have HN2 := Lib.hid hN
      clear hN
      go_enter Tryz.func82, Tryz.ntmps82
      go_wp2_with (first
        | (go_at_call 28; refine (next_any H.out).mono ?_; rintro e w' ⟨rfl, n, rfl⟩)
        | (go_at_call 89; refine (escaped_bad HN2 (H.out.next _ hlt _ (by omega))).mono ?_; rintro e w3 ⟨rfl, hg3⟩))
      refine ⟨rfl, ?_⟩
      rw [HN.out, HN2.out]
      exact ⟨rfl, (grown_next _ _ _ _).trans hg3⟩
  · have b1 : (sym l i == 92) = false := by simpa using h1
    cases hp : plainB also (sym l i) with
    | true =>
      have HN : Hid (letterM l also i = .ok (sym l i) (i + 1)) := by show _ = _; unfold letterM; rw [if_neg h1, if_pos hp]
      have hp2 : (sym l i == -1) = false ∧ 32 ≤ sym l i ∧ (sym l i == 127) = false ∧ (isSign (sym l i) = false ∨ isAlso also (sym l i) = true) := by
        unfold plainB at hp
        simp at hp
        obtain ⟨⟨⟨p1, p2⟩, p3⟩, p4⟩ := hp
        exact ⟨by simpa using p1, p2, by simpa using p3, p4⟩
      obtain ⟨b2, b3, b4, b5⟩ := hp2
      have hlt : i < l.length := by
        apply Nat.lt_of_not_le
        intro hle
        have : sym l i = -1 := by simp [sym, List.getD_eq_getElem?_getD, List.getElem?_eq_none hle]
        omega
      have HS := Lib.hid hsr
      clear h1 hp hsr
      cases hs : isSign (sym l i) with
      | false =>
        clear b5
        go_enter Tryz.func82, Tryz.ntmps82
        go_wp2_with (first
          | (go_at_call 28; refine (next_any H.out).mono ?_; rintro e w' ⟨rfl, n, rfl⟩)
          | (go_at_call 75; refine (contains_signs _ _).mono ?_; rintro e w2 ⟨rfl, hg2⟩; have R2 := Lib.hid ((H.out.drewN _).kept hg2); obtain ⟨A2, c3, k1, k2, k3, k4, k5, k6, k7, k8, k9, k10, k11⟩ := R2.out.cells; clear k6))
        go_ret
        rw [HN.out]
        exact ⟨_, rfl, ⟨rfl, HS.out⟩, R2.out.putz _ _ (by omega) hlt, ((grown_drewN _ _ _).trans (grown_any hg2 _)).trans (grown_setCell _ _ _)⟩
      | true =>
        have b6 : isAlso also (sym l i) = true := b5.resolve_left (by rw [hs]; decide)
        clear b5
        go_enter Tryz.func82, Tryz.ntmps82
        go_wp2_with fail
        refine (next_any H.out).mono ?_
        rintro e w' ⟨rfl, n, rfl⟩
        go_wp2_with fail
        refine (contains_signs _ _).mono ?_
        rintro e w2 ⟨rfl, hg2⟩
        go_wp2_with fail
        refine (contains_also also _ _).mono ?_
        rintro e w3 ⟨rfl, hg3⟩
        have R2 := Lib.hid (((H.out.drewN _).kept hg2).kept hg3)
        obtain ⟨A2, c3, k1, k2, k3, k4, k5, k6, k7, k8, k9, k10, k11⟩ := R2.out.cells
        clear k6
        go_wp2
        go_ret
        rw [HN.out]
        exact ⟨_, rfl, ⟨rfl, HS.out⟩, R2.out.putz _ _ (by omega) hlt, (((grown_drewN _ _ _).trans (grown_any hg2 _)).trans (grown_any hg3 _)).trans (grown_setCell _ _ _)⟩
    | false =>
      have HN : Hid (letterM l also i = .bad i) := by show _ = _; unfold letterM; rw [if_neg h1, if_neg (by rw [hp]; decide)]
      have hw : (sym l i == -1) = true ∨ ((sym l i == -1) = false ∧ sym l i < 32) ∨ ((sym l i == -1) = false ∧ 32 ≤ sym l i ∧ (sym l i == 127) = true) ∨ ((sym l i == -1) = false ∧ 32 ≤ sym l i ∧ (sym l i == 127) = false ∧ isSign (sym l i) = true ∧ isAlso also (sym l i) = false) := by
        unfold plainB at hp
        by_cases q1 : sym l i = -1
        · exact .inl (by simpa using q1)
        · by_cases q2 : sym l i < 32
          · exact .inr (.inl ⟨by simpa using q1, q2⟩)
          · by_cases q3 : sym l i = 127
            · exact .inr (.inr (.inl ⟨by simpa using q1, by omega, by simpa using q3⟩))
            · refine .inr (.inr (.inr ⟨by simpa using q1, by omega, by simpa using q3, ?_⟩))
              simp [q1, q2, q3] at hp
              exact hp
      clear h1 hp hsr
      rcases hw with b2 | ⟨b2, b3⟩ | ⟨b2, b3, b4⟩ | ⟨b2, b3, b4, b5, b6⟩
      iterate 3
        go_enter Tryz.func82, Tryz.ntmps82
        go_wp2_with (first
          | (go_at_call 28; refine (next_any H.out).mono ?_; rintro e w' ⟨rfl, n, rfl⟩)
          | (go_at_call 29; refine (fail_any (H.out.drewN _)).mono ?_; rintro e w' ⟨rfl, hg⟩))
        refine ⟨rfl, ?_⟩
        rw [HN.out]
        exact ⟨rfl, (grown_drewN _ _ _).trans hg⟩
      go_enter Tryz.func82, Tryz.ntmps82
      go_wp2_with fail
      refine (next_any H.out).mono ?_
      rintro e w' ⟨rfl, n, rfl⟩
      go_wp2_with fail
      refine (contains_signs _ _).mono ?_
      rintro e w2 ⟨rfl, hg2⟩
      go_wp2_with fail
      refine (contains_also also _ _).mono ?_
      rintro e w3 ⟨rfl, hg3⟩
      have R2 := Lib.hid (((H.out.drewN _).kept hg2).kept hg3)
      go_wp2_with (go_at_call 29; refine (fail_any R2.out).mono ?_; rintro e w' ⟨rfl, hg⟩)
      refine ⟨rfl, ?_⟩
      rw [HN.out]
      exact ⟨rfl, (((grown_drewN _ _ _).trans (grown_any hg2 _)).trans (grown_any hg3 _)).trans hg⟩
end Go.Proofs.YtocfmjiollafaaaGreatDoor
