import Derived.Test.YtocfmjiollafaaaGreatDoorLet
namespace Go.Proofs.YtocfmjiollafaaaGreatDoor
open Go.RowKit
set_option linter.unusedVariables false
set_option linter.unusedSimpArgs false
theorem letter_ok (also : Bool) {rb : Nat} {l : List Int} {i deep : Nat} {w : World} {x : Int} {j : Nat} (hn : Hid (letterM l also i = .ok x j)) (h : Rd rb l i deep w) : Calls Tryz.prog 82 #[.pointer (some ⟨rb, 0, none⟩), .string (alsoB also)] w (RdOk rb l j deep w (RuneV x)) := by
  have := letter_any also h; rw [hn.out] at this; exact this
theorem letter_bad (also : Bool) {rb : Nat} {l : List Int} {i deep : Nat} {w : World} {j : Nat} (hn : Hid (letterM l also i = .bad j)) (h : Rd rb l i deep w) : Calls Tryz.prog 82 #[.pointer (some ⟨rb, 0, none⟩), .string (alsoB also)] w (RdBad rb j w) := by
  have := letter_any also h; rw [hn.out] at this; exact this
def RunesV (w0 : World) (x : List Int) (v : Value) (w : World) : Prop := ∃ A c, v = .slice A x.length c ∧ x.length ≤ c ∧ kRune.C w (fun k => w0.heap.size ≤ k ∧ k < w.heap.size) A x
set_option maxHeartbeats 2000000 in
theorem letters_any (fuel : Nat) {rb : Nat} {l : List Int} {i deep : Nat} {w : World} {r : Pr (List Int)} (h : Rd rb l i deep w) (hr : lettersM fuel l i [] = some r) :
    Calls Tryz.prog 81 #[.pointer (some ⟨rb, 0, none⟩)] w (PrPost rb l deep w (RunesV w) r) := by
  have hrb := h.cells.choose_spec.choose_spec.1
  have H := Lib.hid h; have HR := Lib.hid hr; clear h hr
  go_enter Tryz.func81, Tryz.ntmps81
  go_wp2
  go_loopg [3] fuel (fun k v wr => ∃ acc j, acc.length + i ≤ j ∧ Rd rb l j deep wr ∧ kRune.Own (fun _ => True) wr w.heap.size 21 v acc ∧ w.grownBy wr (some rb) ∧ Hid (lettersM k l j acc = some r))
  case atStart => exact ⟨[], i, by simp, H.out, Kd.Own.nil _ _ _ _ _, World.grownBy.refl _ _, HR.out⟩
  case round =>
    obtain ⟨acc, j, haj, hrd, HO, hg, HL⟩ := hrel
    obtain ⟨A, c, hrb2, hlc, hl, hj, hd, hC, c0, c1, c2, f1, f2⟩ := hrd.cells
    have R := Lib.hid hrd; clear hrd hC c0 c1 c2 f1 f2
    obtain ⟨g, rfl⟩ : ∃ g, gk = g + 1 := by
      cases gk with
      | zero => have := HL.out; simp [lettersM] at this
      | succ g => exact ⟨g, rfl⟩
    by_cases he : sym l j = 62 ∨ sym l j = 125
    · have hrr : Hid (r = .ok acc j) := by
        have := HL.out
        rw [lettersM, if_pos he] at this
        exact (Option.some.inj this).symm
      obtain ⟨A2, c3, rfl, hc3, hC2⟩ := HO.readsP (plain_int _ _) (fun k => w.heap.size ≤ k ∧ k < wr.heap.size) (fun k h1 h2 => ⟨h1, h2⟩) (by unfold maxN; omega)
      have HC2 := Lib.hid hC2
      have hw : (sym l j != 62) = false ∨ ((sym l j != 62) = true ∧ (sym l j != 125) = false) := by
        simp; omega
      clear he HO hC2
      rcases hw with b1 | ⟨b1, b2⟩
      all_goals
        go_wp2_with (go_at_call 28; refine (next_any (by first | exact R.out | exact R.out.drewN _)).mono ?_; rintro e w' ⟨rfl, n, rfl⟩)
        go_ret
        rw [hrr.out]
        exact ⟨_, rfl, ⟨A2, c3, rfl, hc3, HC2.out⟩, R.out.drewN _, hg.trans (grown_drewN _ _ _)⟩
    · have b1 : (sym l j != 62) = true := by simp; omega
      have b2 : (sym l j != 125) = true := by simp; omega
      cases hN : letterM l false j with
      | bad m =>
        have hrr : Hid (r = .bad m) := by
          have := HL.out
          rw [lettersM, if_neg he, hN] at this
          exact (Option.some.inj this).symm
        have HN := Lib.hid hN
        clear hN he
        go_wp2_with (first
          | (go_at_call 28; refine (next_any (by first | exact R.out | exact R.out.drewN _)).mono ?_; rintro e w' ⟨rfl, n, rfl⟩)
          | (go_at_call 82; refine (letter_bad false HN (R.out.drewN _)).mono ?_; rintro e w3 ⟨rfl, hg3⟩))
        refine ⟨rfl, ?_⟩
        rw [hrr.out]
        exact ⟨rfl, hg.trans ((grown_drewN _ _ _).trans hg3)⟩
      | ok x m =>
        have HL2 : Hid (lettersM g l m (acc ++ [x]) = some r) := by
          have := HL.out
          rwa [lettersM, if_neg he, hN] at this
        have hjm : j < m := letterM_lt hN
        have HN := Lib.hid hN
        clear hN he
        go_wp2_with (first
          | (go_at_call 28; refine (next_any (by first | exact R.out | exact R.out.drewN _)).mono ?_; rintro e w' ⟨rfl, n, rfl⟩)
          | (go_at_call 82; refine (letter_ok false HN (R.out.drewN _)).mono ?_; rintro e w3 ⟨_, rfl, ⟨rfl, hx⟩, hr3, hg3⟩; have R3 := Lib.hid hr3; have hg4 := (grown_drewN wr _ (some rb)).trans hg3; have HO3 := HO.keptP (plain_int _ _) hg4 (by intro k hk; cases hk; exact hrb); clear hr3)
          | (at_builtin; refine wp_app kRune (W := w3) (w0 := w) (row0 := some rb) w.heap.size rfl _ _ _ 21 (.int .i32 0) 4 rfl Tryz.underlying23 info21 rfl ⟨by decide, by decide⟩ u3 acc x #[.int .i32 x] rfl rfl HO3 ⟨rfl, hx⟩ (hg.trans hg4) ?c1 ?c2 ?_))
        case c1 => exact ⟨Nat.le_refl _, Nat.le_trans hg.size hg4.size⟩
        case c2 => omega
        intro v1 w1 HO4 hg5 hg6
        have R4 := Lib.hid (R3.out.keptO hg6 (fun k hk => by have := (HO3.base k hk).1; omega))
        clear HO3 hg6 hg4 hg3 HO
        go_wp2
        go_roundg g
        case measure => omega
        case rel => exact ⟨acc ++ [x], m, by simp; omega, R4.out, HO4, hg5, HL2.out⟩
end Go.Proofs.YtocfmjiollafaaaGreatDoor
