import Derived.Test.YtocfmjiollafaaaGreatDoorRd
import Derived.Test.YtocfmjiollafaaaGreatDoorStr
import Derived.Test.YtocfmjiollafaaaGreatDoorHex
import Derived.Test.YtocfmjiollafaaaGreatDoorWord
import Derived.Deep.LoopGhost
import Derived.Deep.RegionWith
import Derived.Deep.DeepCutAuto
import Derived.Deep.CutBlock
import Derived.Laws.Cover4
namespace Go.Proofs.YtocfmjiollafaaaGreatDoor
open Go.RowKit
set_option linter.unusedVariables false
set_option linter.unusedSimpArgs false
/-- How a reader's function ends, by what is read. -/
def PrPost {α : Type} (rb : Nat) (l : List Int) (deep : Nat) (w : World) (V : α → Value → World → Prop) : Pr α → Ending → World → Prop
  | .ok x j, e, w' => RdOk rb l j deep w (V x) e w'
  | .bad j, e, w' => RdBad rb j w e w'
def RuneV (x : Int) (v : Value) (_ : World) : Prop := v = .int .i32 x ∧ I32 x

theorem hexRun_le (l : List Int) : ∀ i m, hexRun l i m ≤ m
  | _, 0 => by simp [hexRun]
  | i, m + 1 => by
    rw [hexRun]
    have := hexRun_le l (i + 1) m
    split <;> omega
set_option maxRecDepth 100000 in
set_option maxHeartbeats 1000000 in
theorem number_any {rb : Nat} {l : List Int} {i deep : Nat} {w : World} (h : Rd rb l i deep w) :
    Calls Tryz.prog 101 #[.pointer (some ⟨rb, 0, none⟩)] w (PrPost rb l deep w RuneV (numberM l i)) := by
  obtain ⟨A, c, hrb, hlc, hl, hi, hd, hC, c0, c1, c2, f1, f2⟩ := h.cells
  have H := Lib.hid h; clear h hC
  go_enter Tryz.func101, Tryz.ntmps101
  go_upto_block 0 with (fail)
  clear c0 c1 c2 f1 f2
  go_cut [] (fun wr => ∃ j : Nat, hexRun l i 6 = j ∧ i + j ≤ l.length ∧ Rd rb l (i + j) deep wr ∧ w.grownBy wr (some rb) ∧ (∀ t, t < j → isHex (sym l (i + t)) = true))
  case first =>
    go_wp2
    go_loopg [] 6 (fun m wr => ∃ j : Nat, j + m = 6 ∧ i + j ≤ l.length ∧ Rd rb l (i + j) deep wr ∧ w.grownBy wr (some rb) ∧ Hid (hexRun l i 6 = j + hexRun l (i + j) m) ∧ Hid (∀ t, t < j → isHex (sym l (i + t)) = true))
    case atStart => exact ⟨0, rfl, by omega, H.out, World.grownBy.refl _ _, (by simp : hexRun l i 6 = 0 + hexRun l (i + 0) 6), (by intro t ht; omega : ∀ t, t < 0 → isHex (sym l (i + t)) = true)⟩
    case round =>
      obtain ⟨j, hj, hij, hr, hg, HJ, HT⟩ := hrel
      obtain ⟨A, c, hrb, hlc, hl, _, hd, hC, c0, c1, c2, f1, f2⟩ := hr.cells
      have R := Lib.hid hr; clear hr hC
      by_cases hmx : j < 6 ∧ isHex (sym l (i + j)) = true
      · obtain ⟨hm, hx⟩ := hmx
        have hx0 := (isHex_iff _).1 hx
        have hlt : i + j < l.length := sym_lt rfl (by unfold IsHexB at hx0; omega)
        have hne : (sym l (i + j) != -1) = true := by unfold IsHexB at hx0; simp; omega
        have HX := Lib.hid hx
        clear hx0
        go_wp2_with (first
          | (go_at_call 28; refine (next_any (by first | exact R.out | exact R.out.drewN _)).mono ?_; rintro e w' ⟨rfl, n, rfl⟩)
          | (go_at_call 75; refine (contains_hex _ _).mono ?_; rintro e w2 ⟨rfl, hg2⟩; have R2 := Lib.hid ((R.out.drewN _).kept hg2); obtain ⟨A2, c3, k1, k2, k3, k4, k5, k6, k7, k8, k9, k10, k11⟩ := R2.out.cells; clear k6))
        go_roundg (gk - 1)
        case measure => omega
        case rel =>
          refine ⟨j + 1, by omega, by omega, R2.out.putz _ _ (by omega) (by omega), (hg.trans ((grown_drewN _ _ _).trans (grown_any hg2 _))).trans (grown_setCell _ _ _), ?_, ?_⟩
          · show hexRun l i 6 = _
            rw [HJ.out]
            obtain ⟨g, rfl⟩ : ∃ g, gk = g + 1 := ⟨gk - 1, by omega⟩
            rw [hexRun, if_pos HX.out, Nat.add_sub_cancel, Nat.add_assoc i j 1]
            omega
          · show ∀ t, t < j + 1 → _
            intro t ht
            by_cases e : t = j
            · rw [e]; exact HX.out
            · exact HT.out t (by omega)
      · have hk : hexRun l i 6 = j := by
          rw [HJ.out]
          cases gk with
          | zero => simp [hexRun]
          | succ g => rw [hexRun, if_neg (by intro h; exact hmx ⟨by omega, h⟩)]; rfl
        have hways : (j = 6) ∨ (j < 6 ∧ isHex (sym l (i + j)) = false ∧ (sym l (i + j) != -1) = true) ∨ (j < 6 ∧ (sym l (i + j) != -1) = false) := by
          by_cases h1 : j < 6
          · by_cases h2 : sym l (i + j) = -1
            · exact .inr (.inr ⟨h1, by simp [h2]⟩)
            · exact .inr (.inl ⟨h1, by simpa using fun h => hmx ⟨h1, h⟩, by simpa using h2⟩)
          · exact .inl (by omega)
        have HK := Lib.hid hk
        clear hmx hk
        rcases hways with h1 | ⟨h1, h2, h3⟩ | ⟨h1, h3⟩
        all_goals
          go_wp2_with (first
            | (go_at_call 28; refine (next_any (by first | exact R.out | exact R.out.drewN _)).mono ?_; rintro e w' ⟨rfl, n, rfl⟩)
            | (go_at_call 75; refine (contains_hex _ _).mono ?_; rintro e w2 ⟨rfl, hg2⟩))
          go_meet
          case rel => exact ⟨j, HK.out, hij, (by first | exact R.out.drewN _ | exact R.out | exact (R.out.drewN _).kept hg2), (by first | exact hg.trans (grown_drewN _ _ _) | exact hg | exact hg.trans ((grown_drewN _ _ _).trans (grown_any hg2 _))), HT.out⟩
  case rest =>
    obtain ⟨w1, hw1⟩ : ∃ w1, w1 = wc := ⟨_, rfl⟩
    subst hw1
    obtain ⟨k, hk, hik, hr, hg, ht⟩ := hcut
    obtain ⟨A, c, hrb, hlc, hl, _, hd, hC, c0, c1, c2, f1, f2⟩ := hr.cells
    have HK := Lib.hid hk
    have HT := Lib.hid ht
    have R := Lib.hid hr
    clear hk ht hr
    have HC := Lib.hid hC
    clear hC
    by_cases hbad : k = 0 ∨ sym l (i + k) ≠ 125
    · have HN : Hid (numberM l i = .bad (i + k)) := by
        show numberM l i = _
        unfold numberM
        simp only [HK.out]
        rw [if_pos hbad]
      by_cases hk0 : k = 0
      · subst hk0
        have hb0 : ((i : Int) == (i : Int)) = true := by simp
        go_wp2_with (go_at_call 29; refine (fail_any R.out).mono ?_; rintro e w' ⟨rfl, hg2⟩)
        refine ⟨rfl, ?_⟩
        rw [HN.out]
        exact ⟨rfl, hg.trans hg2⟩
      · have hb0 : ((i : Int) + (k : Int) == (i : Int)) = false := by simp; omega
        have hb1 : (sym l (i + k) != 125) = true := by simp; omega
        go_wp2_with (first | (go_at_call 28; refine (next_any R.out).mono ?_; rintro e w' ⟨rfl, n, rfl⟩) | (go_at_call 29; refine (fail_any (R.out.drewN _)).mono ?_; rintro e w' ⟨rfl, hg2⟩))
        refine ⟨rfl, ?_⟩
        rw [HN.out]
        exact ⟨rfl, hg.trans ((grown_drewN _ _ _).trans hg2)⟩
    · have hk0 : 0 < k := by omega
      have hk6 : k ≤ 6 := by have := hexRun_le l i 6; have := HK.out; omega
      obtain ⟨b, o, x, rfl, hbok, _, _, _, _⟩ := HC.out.rune i (by omega)
      have hb0 : ((i : Int) + (k : Int) == (i : Int)) = false := by simp; omega
      have hb1 : (sym l (i + k) != 125) = false := by simp; omega
      go_wp2_with (first | (go_at_call 28; refine (next_any R.out).mono ?_; rintro e w' ⟨rfl, n, rfl⟩))
      obtain ⟨ds, hds⟩ : ∃ ds, (l.drop i).take k = ds := ⟨_, rfl⟩
      have hdl : ds.length = k := by rw [← hds]; simp; omega
      have hdh : ∀ x ∈ ds, IsHexB x := by
        intro x hx
        rw [← hds] at hx
        obtain ⟨t, ht, e⟩ := List.mem_iff_getElem.1 hx
        have htk : t < k := by simp at ht; omega
        have := HT.out t htk
        rw [isHex_iff] at this
        have es : sym l (i + t) = x := by
          rw [← e]
          simp [sym, List.getD_eq_getElem?_getD, List.getElem?_eq_getElem (show i + t < l.length by omega)]
        rwa [es] at this
      have hda : ∀ x ∈ ds, 0 ≤ x ∧ x < 128 := fun x hx => by have := hdh x hx; unfold IsHexB at this; omega
      obtain ⟨S, hS⟩ : ∃ S, runesBytes ds = S := ⟨_, rfl⟩
      obtain ⟨hS1, hS2⟩ := runesBytes_ascii ds hda
      rw [hS] at hS1 hS2
      have kc : ∀ m, (convert 23 9 (.slice (some ⟨b, o + i, none⟩) k (c - i))).run Tryz.prog (w1.drewN m) = .ok (.string S) (w1.drewN m) := by
        intro m
        rw [← hS, ← hds]
        refine run_convert_runes (w1.drewN m) 23 9 21 ⟨b, o + i, none⟩ k (c - i) (l.drop i) (by simp; omega) Tryz.underlying23 Tryz.underlying21 Tryz.underlying9 ?_
        intro j hj
        obtain ⟨b', o', x', hA, _, hx', _, hg', _⟩ := HC.out.rune (i + j) (by simp at hj; omega)
        cases hA
        rw [add_plain2, Nat.add_assoc]
        show w1.cell? _ = _
        rw [hx']
        simp [List.getD_eq_getElem?_getD, hg']
      have hv := hexV_range ds 0 0 hdh (by decide) (by decide)
      rw [hdl, Nat.zero_add] at hv
      have hv2 : hexV 0 ds ≤ 16777215 := by
        have : (16 : Int) ^ k ≤ 16777216 := by
          have : k = 1 ∨ k = 2 ∨ k = 3 ∨ k = 4 ∨ k = 5 ∨ k = 6 := by omega
          rcases this with rfl | rfl | rfl | rfl | rfl | rfl <;> decide
        omega
      have hv1 := hv.1
      have HS := Lib.hid (And.intro hS1 (And.intro hS2 hdh))
      have HDS := Lib.hid (And.intro hds hdl)
      clear hds hdl hdh hda hS1 hS2 hS hv
      have hpu : ∀ W, Calls Tryz.prog 117 #[.string S, .int .i64 16, .int .i64 32] W (HexPost W ds) := by
        intro W
        have := parseHex_any S W (by have := HS.out.2.1; have := HDS.out.2; omega) (by have := HS.out.2.1; have := HDS.out.2; omega) ?_
        · rwa [HS.out.1] at this
        · intro b hb
          have : (b.toNat : Int) ∈ S.data.toList.map fun b => (b.toNat : Int) := List.mem_map.2 ⟨b, hb, rfl⟩
          rw [HS.out.1] at this
          exact HS.out.2.2 _ this
      have HPU := Lib.hid hpu
      clear hpu
      generalize hVE : hexV 0 ds = V at hv1 hv2
      have HVE := Lib.hid hVE
      clear hVE
      go_upto_region 6 with (fail)
      clear c2 f1 f2
      go_cut [4, 5] (fun v e wr => v = .int .u64 V ∧ e = .nilIface ∧ w1.grownBy wr none)
      case rest =>
        obtain ⟨rfl, rfl, hg3⟩ := hcut
        have R3 := R.out.kept hg3
        obtain ⟨A3, c3, q1, q2, q3, q4, q5, q6, k0, k1, k2, k3, k4⟩ := R3.cells
        have R4 := Lib.hid R3
        clear R3 q6
        have hw : (i + k + 1 : Nat) ≤ l.length := by
          have := sym_lt (l := l) (i := i + k) (x := 125) (by omega) (by omega)
          omega
        have hcv : wrap32 V = V := by unfold wrap32; omega
        cases hin : inS 2 V with
        | true =>
          go_wp2_with (first | (go_at_call 55; refine (In_any _ _ _).mono ?_; rintro e w' ⟨rfl, rfl⟩))
          go_ret
          have HN : numberM l i = .ok V (i + k + 1) := by
            unfold numberM
            simp only [HK.out, HDS.out.1, HVE.out]
            rw [if_neg hbad, if_pos hin]
          rw [HN]
          exact ⟨_, rfl, ⟨rfl, inS_I32 hin⟩, R4.out.putz _ _ (by omega) hw, (hg.trans (grown_any hg3 _)).trans (grown_setCell _ _ _)⟩
        | false =>
          go_wp2_with (first | (go_at_call 55; refine (In_any _ _ _).mono ?_; rintro e w' ⟨rfl, rfl⟩) | (go_at_call 29; refine (fail_any R4.out).mono ?_; rintro e w' ⟨rfl, hg2⟩))
          refine ⟨rfl, ?_⟩
          have HN : numberM l i = .bad (i + k) := by
            unfold numberM
            simp only [HK.out, HDS.out.1, HVE.out]
            rw [if_neg hbad, if_neg (by rw [hin]; decide)]
          rw [HN]
          exact ⟨rfl, hg.trans ((grown_any hg3 _).trans hg2)⟩
      go_region_with (go_at_call 117; refine (HPU.out _).mono ?_; rintro e w' ⟨rfl, hg2⟩)
      all_goals
        go_wp2_with fail
        go_meet
        case rel => exact ⟨by rw [← HVE.out], rfl, (grown_drewN _ _ _).trans hg2⟩
end Go.Proofs.YtocfmjiollafaaaGreatDoor
