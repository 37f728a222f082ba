import Derived.Test.YtocfmjiollafaaaGreatDoorLets
import Derived.Test.YtocfmjiollafaaaGreatDoorRcv
namespace Go.Proofs.YtocfmjiollafaaaGreatDoor
open Go.RowKit
set_option linter.unusedVariables false
set_option linter.unusedSimpArgs false
theorem wrap10 (v x : Int) (h0 : 0 ≤ v) (h1 : v ≤ 999999) (h2 : 48 ≤ x) (h3 : x ≤ 57) : IntKind.i64.wrap (IntKind.i64.wrap (10 * v) + IntKind.i64.wrap (IntKind.i32.wrap (x - 48))) = 10 * v + (x - 48) := by
  rw [show IntKind.i32.wrap (x - 48) = x - 48 by rw [IntKind.wrap_i32]; omega, IntWalk.i64_in (x - 48) (by omega), IntWalk.i64_in (10 * v) (by omega), IntWalk.i64_in _ (by omega)]
theorem RcV_set {N : Nat → Prop} {w : World} (k b : Int) (hk : I64 k) (hb : I64 b) {set : List Sp} {A : Option Addr} {c : Nat} (hc : set.length ≤ c) (hS : kSp.C w N A set) :
    RcV N (.mk k set b [] [] []) (.agg #[.int .i64 k, .slice A set.length c, .int .i64 b, .slice none 0 0, .slice none 0 0, .slice none 0 0]) w :=
  ⟨_, rfl, kRc_iff.2 ⟨A, c, none, 0, none, 0, none, 0, rfl, hk, hb, ⟨hc, hS⟩, ⟨Nat.le_refl _, Kd.C_nil _ _ _ _⟩, ⟨Nat.le_refl _, Kd.C_nil _ _ _ _⟩, ⟨Nat.le_refl _, Kd.C_nil _ _ _ _⟩⟩⟩
theorem behind_fin {rb : Nat} {l : List Int} {j deep : Nat} {w W : World} {set : List Sp} {A : Option Addr} {c : Nat} {N : Nat → Prop} (hN : ∀ k, N k → but w rb k) (hc : set.length ≤ c) (hS : kSp.C w N A set) (k b : Int) (hk : I64 k) (hb : I64 b)
    (hrb : rb < w.heap.size) {z0 z1 z2 z3 z4 z5 : Value} (hb4 : W.heap[w.heap.size]? = some (.cells #[z0, z1, z2, z3, z4, z5] 26 (0, 0))) (hg : w.grownBy W (some rb)) (hr : Rd rb l j deep W)
    {a : Act} (ha : a.tmps.getD 4 undef = .pointer (some ⟨w.heap.size, 0, none⟩)) (hd : a.defers = []) :
    bodyPost Tryz.prog Tryz.f79 (PrPost rb l deep w (RcV N) (.ok (.mk k set b [] [] []) j)) Exit.ret a
      ((((((W.setCell ⟨w.heap.size, 0, none⟩ (.int .i64 k)).setCell ⟨w.heap.size, 1, none⟩ (.slice A set.length c)).setCell ⟨w.heap.size, 2, none⟩ (.int .i64 b)).setCell ⟨w.heap.size, 3, none⟩ (.slice none 0 0)).setCell ⟨w.heap.size, 4, none⟩ (.slice none 0 0)).setCell ⟨w.heap.size, 5, none⟩ (.slice none 0 0)) := by
  obtain ⟨W6, hW6, hb7, hg6⟩ := put6 hb4 (.int .i64 k) (.slice A set.length c) (.int .i64 b) (.slice none 0 0) (.slice none 0 0) (.slice none 0 0)
  rw [hW6]
  have q0 := cells_at hb7 0; have q1 := cells_at hb7 1; have q2 := cells_at hb7 2; have q3 := cells_at hb7 3; have q4 := cells_at hb7 4; have q5 := cells_at hb7 5
  simp at q0 q1 q2 q3 q4 q5
  have ha' : a.tmps[4]?.getD undef = .pointer (some ⟨w.heap.size, 0, none⟩) := by simpa using ha
  have hg7 : w.grownBy W6 (some rb) := grown_own hg hg6 (by intro k hk; cases hk; exact Nat.le_refl _)
  refine bodyPost_ret (v := .agg #[.int .i64 k, .slice A set.length c, .int .i64 b, .slice none 0 0, .slice none 0 0, .slice none 0 0]) (by simp [results, Tryz.results79, ha', go_sem, q0, q1, q2, q3, q4, q5]) hd ?_
  exact ⟨_, rfl, RcV_set k b hk hb hc (hS.step (fun k hk => ⟨hk, (but_step hg7 k (hN k hk)).2⟩)), hr.keptO hg6 (by intro k hk; cases hk; exact hrb), hg7⟩
theorem behind_put {rb : Nat} {l : List Int} {i deep : Nat} {w wr : World} {z0 z1 z2 z3 z4 z5 y0 y1 y2 y3 y4 y5 : Value} (N : Nat) (z : Int) (hrb : rb < w.heap.size) (R : Rd rb l i deep wr) (hb4 : wr.heap[w.heap.size]? = some (.cells #[z0, z1, z2, z3, z4, z5] 26 (0, 0)))
    (hb5 : wr.heap[w.heap.size + 1]? = some (.cells #[y0, y1, y2, y3, y4, y5] 26 (0, 0))) (hg : w.grownBy wr (some rb)) :
    Rd rb l i deep ((wr.drewN N).setCell ⟨w.heap.size + 1, 2, none⟩ (.int .i64 z)) ∧ ((wr.drewN N).setCell ⟨w.heap.size + 1, 2, none⟩ (.int .i64 z)).heap[w.heap.size]? = some (.cells #[z0, z1, z2, z3, z4, z5] 26 (0, 0)) ∧
      ((wr.drewN N).setCell ⟨w.heap.size + 1, 2, none⟩ (.int .i64 z)).heap[w.heap.size + 1]? = some (.cells #[y0, y1, .int .i64 z, y3, y4, y5] 26 (0, 0)) ∧ w.grownBy ((wr.drewN N).setCell ⟨w.heap.size + 1, 2, none⟩ (.int .i64 z)) (some rb) := by
  have hgs := grown_setCell (wr.drewN N) ⟨w.heap.size + 1, 2, none⟩ (.int .i64 z)
  exact ⟨(R.drewN N).keptO hgs (by intro k hk; cases hk; exact Nat.lt_succ_of_lt hrb), cells_other (w := wr.drewN N) hb4 _ _ (by omega), cells_set (w := wr.drewN N) hb5 _ _, grown_own (hg.trans (grown_drewN _ _ _)) hgs (by intro k hk; cases hk; exact Nat.le_succ _)⟩
theorem decV_snoc : ∀ (L : List Int) (n x : Int), decV n (L ++ [x]) = 10 * decV n L + (x - 48)
  | [], n, x => rfl
  | c :: L, n, x => by rw [List.cons_append, decV, decV, decV_snoc L]
theorem dec_step {l : List Int} {f j : Nat} {v : Int} (hlt : f + j < l.length) (h1 : 48 ≤ sym l (f + j)) (h2 : sym l (f + j) ≤ 57) (hv : 0 ≤ v) (HV : v < 10 ^ j ∧ v = decV 0 ((l.drop f).take j)) :
    10 * v + (sym l (f + j) - 48) < 10 ^ (j + 1) ∧ 10 * v + (sym l (f + j) - 48) = decV 0 ((l.drop f).take (j + 1)) := by
  constructor
  · rw [Int.pow_succ]; have := HV.1; omega
  · have hj : j < (l.drop f).length := by simp; omega
    rw [List.take_succ_eq_append_getElem hj, decV_snoc, ← HV.2]
    simp [sym, List.getD_eq_getElem?_getD, List.getElem?_eq_getElem hlt]
set_option maxHeartbeats 4000000 in
theorem behind_any {rb : Nat} {l : List Int} {i deep : Nat} {w : World} (set : List Sp) (A : Option Addr) (c : Nat) {N : Nat → Prop} (hN : ∀ k, N k → but w rb k) (hc : set.length ≤ c) (hS : kSp.C w N A set) (h : Rd rb l i deep w) :
    Calls Tryz.prog 79 #[.pointer (some ⟨rb, 0, none⟩), .slice A set.length c] w (PrPost rb l deep w (RcV N) (behindM l i set)) := by
  have hrb := h.cells.choose_spec.choose_spec.1
  have H := Lib.hid h; clear h
  have HS := Lib.hid hS; clear hS
  obtain ⟨W, hW, hb4, hb5, hgW, hWs⟩ := two_new w (.cells #[.int .i64 0, .slice none 0 0, .int .i64 0, .slice none 0 0, .slice none 0 0, .slice none 0 0] 26) (.cells #[.int .i64 1, .slice A set.length c, .int .i64 0, .slice none 0 0, .slice none 0 0, .slice none 0 0] 26)
  have R := Lib.hid (H.out.kept hgW)
  have HW := Lib.hid hW
  clear hW
  by_cases h1 : sym l i = 33
  · have HN : Hid (behindM l i set = .ok (kDrop set) (i + 1)) := by show _ = _; unfold behindM; rw [if_pos h1]
    have H1 := Lib.hid h1
    clear h1
    go_enter Tryz.func79, Tryz.ntmps79
    go_wp2_with (fail)
    rw [HW.out]
    refine (eat_yes R.out 33 H1.out (by decide)).mono ?_
    rintro e w2 ⟨_, rfl, rfl, hr2, hg2⟩
    have hb4' := (hg2.block w.heap.size (by omega) (by intro e; cases e; omega)).trans hb4
    have hb5' := (hg2.block (w.heap.size + 1) (by omega) (by intro e; cases e; omega)).trans hb5
    have R2 := Lib.hid hr2
    clear hb4 hb5 hr2
    have k40 := cells_at hb4' 0; have k41 := cells_at hb4' 1; have k42 := cells_at hb4' 2; have k43 := cells_at hb4' 3; have k44 := cells_at hb4' 4; have k45 := cells_at hb4' 5
    have k50 := cells_at hb5' 0; have k51 := cells_at hb5' 1; have k52 := cells_at hb5' 2; have k53 := cells_at hb5' 3; have k54 := cells_at hb5' 4; have k55 := cells_at hb5' 5
    simp at k40 k41 k42 k43 k44 k45 k50 k51 k52 k53 k54 k55
    go_wp2
    rw [HN.out]
    have hg5 := grown_setCell w2 ⟨w.heap.size + 1, 0, none⟩ (.int .i64 2)
    have hb6 := (hg5.block w.heap.size (by have := hg2.size; omega) (by simp)).trans hb4'
    exact behind_fin hN hc HS.out 2 0 (by decide) (by decide) hrb hb6 (grown_own ((grown_any hgW _).trans hg2) hg5 (by intro k hk; cases hk; exact Nat.le_succ _)) (R2.out.keptO hg5 (by intro k hk; cases hk; exact Nat.lt_succ_of_lt hrb)) rfl rfl
  · by_cases h2 : sym l i = 64
    · have HN : Hid (behindM l i set = behindD l (if sym l (i + 1) = 45 then i + 2 else i + 1) (if sym l (i + 1) = 45 then -1 else 1) set) := by show _ = _; unfold behindM behindD; rw [if_neg h1, if_pos h2]; split <;> (split <;> simp [Int.mul_neg_one])
      have H1 := Lib.hid h1
      have H2 := Lib.hid h2
      clear h1 h2
      go_enter Tryz.func79, Tryz.ntmps79
      go_wp2_with (fail)
      rw [HW.out]
      refine (eat_no R.out 33 H1.out).mono ?_
      rintro e w2 ⟨rfl, n, rfl⟩
      go_wp2_with (fail)
      refine (eat_yes (R.out.drewN _) 64 H2.out (by decide)).mono ?_
      rintro e w2 ⟨_, rfl, rfl, hr2, hg2⟩
      have hb4' := (hg2.block w.heap.size (by show _ < W.heap.size; omega) (by intro e; cases e; omega)).trans hb4
      have hb5' := (hg2.block (w.heap.size + 1) (by show _ < W.heap.size; omega) (by intro e; cases e; omega)).trans hb5
      have R2 := Lib.hid hr2
      have hg3 := ((grown_any hgW (some rb)).trans (grown_drewN _ _ _)).trans hg2
      clear hb4 hb5 hr2 hg2
      obtain ⟨f, hf⟩ : ∃ f, f = if sym l (i + 1) = 45 then i + 2 else i + 1 := ⟨_, rfl⟩
      obtain ⟨s, hs2⟩ : ∃ s : Int, s = if sym l (i + 1) = 45 then -1 else 1 := ⟨_, rfl⟩
      have HN2 : Hid (behindM l i set = behindD l f s set) := by show _ = _; rw [HN.out, ← hf, ← hs2]
      have hs3 : I64 s ∧ (s = 1 ∨ s = -1) := by rw [hs2]; split <;> decide
      have HF := Lib.hid hf
      have HS2 := Lib.hid hs2
      have HS3 := Lib.hid hs3
      clear hf hs2 hs3
      go_upto_region 6 with (fail)
      go_cut [18] (fun b wr => b = .bool (decide (sym l (i + 1) = 45)) ∧ Rd rb l f deep wr ∧ wr.heap[w.heap.size]? = some (.cells #[.int .i64 0, .slice none 0 0, .int .i64 0, .slice none 0 0, .slice none 0 0, .slice none 0 0] 26 (0, 0)) ∧
          wr.heap[w.heap.size + 1]? = some (.cells #[.int .i64 1, .slice A set.length c, .int .i64 0, .slice none 0 0, .slice none 0 0, .slice none 0 0] 26 (0, 0)) ∧ w.grownBy wr (some rb))
      case first =>
        go_wp2_with (fail)
        by_cases hs : sym l (i + 1) = 45
        · refine (eat_yes R2.out 45 hs (by decide)).mono ?_
          rintro e w3 ⟨_, rfl, rfl, hr3, hg4⟩
          go_wp2_with (fail)
          go_meet
          case rel => exact ⟨by rw [decide_eq_true hs], by rw [HF.out, if_pos hs]; exact hr3, (hg4.block w.heap.size (by have := (Array.getElem?_eq_some_iff.1 hb5').1; omega) (by intro e; cases e; omega)).trans hb4', (hg4.block (w.heap.size + 1) (by have := (Array.getElem?_eq_some_iff.1 hb5').1; omega) (by intro e; cases e; omega)).trans hb5', hg3.trans hg4⟩
        · refine (eat_no R2.out 45 hs).mono ?_
          rintro e w3 ⟨rfl, n2, rfl⟩
          go_wp2_with (fail)
          go_meet
          case rel => exact ⟨by rw [decide_eq_false hs], by rw [HF.out, if_neg hs]; exact R2.out.drewN n2, hb4', hb5', hg3.trans (grown_drewN _ _ _)⟩
      case rest =>
      obtain ⟨w3, hw3⟩ : ∃ w3, w3 = wc := ⟨_, rfl⟩
      subst hw3
      obtain ⟨rfl, hr3, hb4, hb5, hg5⟩ := hcut
      clear hb4' hb5' hg3
      go_upto_if 18 with (fail)
      go_cut [6] (fun sv wr => sv = .int .i64 s ∧ wr = w3)
      case first =>
        by_cases hs : sym l (i + 1) = 45
        · have hd : decide (sym l (i + 1) = 45) = true := decide_eq_true hs
          go_wp2
          go_meet
          case rel => exact ⟨by rw [HS2.out, if_pos hs], rfl⟩
        · have hd : decide (sym l (i + 1) = 45) = false := decide_eq_false hs
          go_wp2
          go_meet
          case rel => exact ⟨by rw [HS2.out, if_neg hs], rfl⟩
      case rest =>
      obtain ⟨rfl, rfl⟩ := hcut
      obtain ⟨A3, c3, q1, q2, q3, q4, q5, q6, c0, c1, c2, f1, f2⟩ := hr3.cells
      have R3 := Lib.hid hr3
      clear hr3 q6
      go_upto_block 1 with (fail)
      clear c0 c1 c2 f1 f2
      go_cut [] (fun wr => ∃ j : Nat, digRun l f 7 = j ∧ f + j ≤ l.length ∧ j ≤ 7 ∧ Rd rb l (f + j) deep wr ∧ wr.heap[w.heap.size]? = some (.cells #[.int .i64 0, .slice none 0 0, .int .i64 0, .slice none 0 0, .slice none 0 0, .slice none 0 0] 26 (0, 0)) ∧
        (∃ v, wr.heap[w.heap.size + 1]? = some (.cells #[.int .i64 1, .slice A set.length c, .int .i64 v, .slice none 0 0, .slice none 0 0, .slice none 0 0] 26 (0, 0)) ∧ 0 ≤ v ∧ v ≤ 9999999 ∧ v = decV 0 ((l.drop f).take j)) ∧ w.grownBy wr (some rb))
      case first =>
        go_wp2
        go_loopg [] 7 (fun m wr => ∃ j : Nat, ∃ v : Int, j + m = 7 ∧ f + j ≤ l.length ∧ Rd rb l (f + j) deep wr ∧ wr.heap[w.heap.size]? = some (.cells #[.int .i64 0, .slice none 0 0, .int .i64 0, .slice none 0 0, .slice none 0 0, .slice none 0 0] 26 (0, 0)) ∧
          wr.heap[w.heap.size + 1]? = some (.cells #[.int .i64 1, .slice A set.length c, .int .i64 v, .slice none 0 0, .slice none 0 0, .slice none 0 0] 26 (0, 0)) ∧ 0 ≤ v ∧ v ≤ 9999999 ∧ w.grownBy wr (some rb) ∧
          Hid (v < 10 ^ j ∧ v = decV 0 ((l.drop f).take j)) ∧ Hid (digRun l f 7 = j + digRun l (f + j) m))
        case atStart => exact ⟨0, 0, rfl, by omega, R3.out, hb4, hb5, by decide, by decide, hg5, ⟨by decide, rfl⟩, (by simp : digRun l f 7 = 0 + digRun l (f + 0) 7)⟩
        case round =>
          obtain ⟨j, v, hj, hij, hr, hb4, hb5, hv0, hv1, hg, HV, HJ⟩ := hrel
          obtain ⟨A4, c4, q1, q2, q3, q4, q5, q6, c0, c1, c2, f1, f2⟩ := hr.cells
          have R4 := Lib.hid hr
          clear hr q6
          by_cases hx : j < 7 ∧ isDig (sym l (f + j)) = true
          · obtain ⟨hj7, hx⟩ := hx
            have hx2 : 48 ≤ sym l (f + j) ∧ sym l (f + j) ≤ 57 := by simpa [isDig] using hx
            obtain ⟨hx3, hx4⟩ := hx2
            have hlt : f + j < l.length := sym_lt rfl (by omega)
            have HX := Lib.hid hx
            have hvv : v ≤ 999999 := by
              have := HV.out.1
              have : (10 : Int) ^ j ≤ 1000000 := by
                have : j = 0 ∨ j = 1 ∨ j = 2 ∨ j = 3 ∨ j = 4 ∨ j = 5 ∨ j = 6 := by omega
                rcases this with rfl | rfl | rfl | rfl | rfl | rfl | rfl <;> decide
              omega
            clear hx
            go_upto_region 10 with (go_at_call 28; refine (next_any (by first | exact R4.out | exact R4.out.drewN _)).mono ?_; rintro e w' ⟨rfl, n, rfl⟩)
            clear c0 c1 c2 f1 f2
            have k52 := cells_at hb5 2
            simp at k52
            obtain ⟨k52, k52f⟩ := k52
            go_cut [] (fun w6 => Rd rb l (f + j) deep w6 ∧ w6.heap[w.heap.size]? = some (.cells #[.int .i64 0, .slice none 0 0, .int .i64 0, .slice none 0 0, .slice none 0 0, .slice none 0 0] 26 (0, 0)) ∧
              w6.heap[w.heap.size + 1]? = some (.cells #[.int .i64 1, .slice A set.length c, .int .i64 (10 * v + (sym l (f + j) - 48)), .slice none 0 0, .slice none 0 0, .slice none 0 0] 26 (0, 0)) ∧ w.grownBy w6 (some rb))
            case first =>
              go_region_with (go_at_call 28; refine (next_any (R4.out.drewN _)).mono ?_; rintro e w' ⟨rfl, n, rfl⟩)
              all_goals
                go_wp2_with fail
                go_meet
                case rel =>
                  rw [wrap10 v _ hv0 (by omega) hx3 hx4]
                  exact behind_put _ _ hrb R4.out hb4 hb5 hg
            case rest =>
              obtain ⟨w7, hw7⟩ : ∃ w7, w7 = wc := ⟨_, rfl⟩
              subst hw7
              obtain ⟨hr7, hb47, hb57, hg7⟩ := hcut
              obtain ⟨A5, c5, q1, q2, q3, q4, q5, q6, c0, c1, c2, f1, f2⟩ := hr7.cells
              have R7 := Lib.hid hr7
              clear hr7 q6 hb4 hb5 k52 k52f hg
              go_wp2
              have hgs := grown_setCell w7 ⟨rb, 1, none⟩ (.int .i64 ((f : Int) + (j : Int) + 1))
              go_roundg (gk - 1)
              case measure => omega
              case rel =>
                refine ⟨j + 1, _, by omega, by omega, R7.out.putz _ _ (by omega) (by omega), cells_other hb47 _ _ (by omega), cells_other hb57 _ _ (by omega), by omega, by omega, hg7.trans hgs, dec_step hlt hx3 hx4 hv0 HV.out, ?_⟩
                show digRun l f 7 = _
                rw [HJ.out]
                obtain ⟨g, rfl⟩ : ∃ g, gk = g + 1 := ⟨gk - 1, by omega⟩
                rw [digRun, if_pos HX.out, Nat.add_sub_cancel, Nat.add_assoc f j 1]
                omega
          · have hk : digRun l f 7 = j := by
              rw [HJ.out]
              cases gk with
              | zero => simp [digRun]
              | succ g => rw [digRun, if_neg (by intro h; exact hx ⟨by omega, h⟩)]; rfl
            have hways : j = 7 ∨ (j < 7 ∧ sym l (f + j) < 48) ∨ (j < 7 ∧ 48 ≤ sym l (f + j) ∧ 57 < sym l (f + j)) := by
              by_cases h1 : j < 7
              · by_cases h2 : sym l (f + j) < 48
                · exact .inr (.inl ⟨h1, h2⟩)
                · refine .inr (.inr ⟨h1, by omega, ?_⟩)
                  apply Int.lt_of_not_ge
                  intro h3
                  exact hx ⟨h1, by simp [isDig]; omega⟩
              · exact .inl (by omega)
            have HK := Lib.hid hk
            clear hx hk
            rcases hways with h1 | ⟨h1, h2⟩ | ⟨h1, h2, h3⟩
            all_goals
              go_wp2_with (go_at_call 28; refine (next_any (by first | exact R4.out | exact R4.out.drewN _)).mono ?_; rintro e w' ⟨rfl, n, rfl⟩)
              go_meet
              case rel => exact ⟨j, HK.out, hij, by omega, (by first | exact R4.out | exact R4.out.drewN _), hb4, ⟨v, hb5, hv0, hv1, HV.out.2⟩, (by first | exact hg | exact hg.trans (grown_drewN _ _ _))⟩
      case rest =>
        obtain ⟨w4, hw4⟩ : ∃ w4, w4 = wc := ⟨_, rfl⟩
        subst hw4
        clear hb4 hb5 hg5
        obtain ⟨k, hk, hfk, hk7, hr, hb4, ⟨v, hb5, hv0, hv1, hv⟩, hg⟩ := hcut
        obtain ⟨A4, c4, q1, q2, q3, q4, q5, q6, c0, c1, c2, f1, f2⟩ := hr.cells
        have R4 := Lib.hid hr
        have HK := Lib.hid hk
        have HV := Lib.hid hv
        clear hr hk hv q6
        by_cases hk0 : k = 0
        · have hb0 : ((f : Int) + (k : Int) == (f : Int)) = true := by simp; omega
          go_wp2_with (go_at_call 29; refine (fail_any R4.out).mono ?_; rintro e w' ⟨rfl, hg2⟩)
          refine ⟨rfl, ?_⟩
          rw [HN2.out, behindD, HK.out, if_pos hk0]
          exact ⟨rfl, hg.trans hg2⟩
        · have hb0 : ((f : Int) + (k : Int) == (f : Int)) = false := by simp; omega
          have k40 := cells_at hb4 0; have k41 := cells_at hb4 1; have k42 := cells_at hb4 2; have k43 := cells_at hb4 3; have k44 := cells_at hb4 4; have k45 := cells_at hb4 5
          have k50 := cells_at hb5 0; have k51 := cells_at hb5 1; have k52 := cells_at hb5 2; have k53 := cells_at hb5 3; have k54 := cells_at hb5 4; have k55 := cells_at hb5 5
          simp at k40 k41 k42 k43 k44 k45 k50 k51 k52 k53 k54 k55
          have hsv : I64 (v * s) ∧ wrap64 (v * s) = v * s := by
            rcases HS3.out.2 with h | h
            · rw [h]; unfold I64 wrap64; omega
            · rw [h]; unfold I64 wrap64; omega
          have HSV := Lib.hid hsv.1
          have hsv2 := hsv.2
          clear hsv
          go_wp2
          rw [HN2.out, behindD, HK.out, if_neg hk0, ← HV.out]
          have hgs := grown_setCell w4 ⟨w.heap.size + 1, 2, none⟩ (.int .i64 (v * s))
          exact behind_fin hN hc HS.out 1 (v * s) (by decide) HSV.out hrb (cells_other hb4 _ _ (by omega)) (grown_own hg hgs (by intro k hk; cases hk; exact Nat.le_succ _)) (R4.out.keptO hgs (by intro k hk; cases hk; exact Nat.lt_succ_of_lt hrb)) rfl rfl
    · have HN : Hid (behindM l i set = .ok (kCopy set 0) i) := by show _ = _; unfold behindM; rw [if_neg h1, if_neg h2]
      have H1 := Lib.hid h1
      have H2 := Lib.hid h2
      clear h1 h2
      go_enter Tryz.func79, Tryz.ntmps79
      go_wp2_with (fail)
      rw [HW.out]
      refine (eat_no R.out 33 H1.out).mono ?_
      rintro e w2 ⟨rfl, n, rfl⟩
      go_wp2_with (fail)
      refine (eat_no (R.out.drewN _) 64 H2.out).mono ?_
      rintro e w2 ⟨rfl, n2, rfl⟩
      have k40 := cells_at hb4 0; have k41 := cells_at hb4 1; have k42 := cells_at hb4 2; have k43 := cells_at hb4 3; have k44 := cells_at hb4 4; have k45 := cells_at hb4 5
      have k50 := cells_at hb5 0; have k51 := cells_at hb5 1; have k52 := cells_at hb5 2; have k53 := cells_at hb5 3; have k54 := cells_at hb5 4; have k55 := cells_at hb5 5
      simp at k40 k41 k42 k43 k44 k45 k50 k51 k52 k53 k54 k55
      clear hb5
      go_wp2
      rw [HN.out]
      exact behind_fin (W := W.drewN _) hN hc HS.out 1 0 (by decide) (by decide) hrb hb4 ((grown_any hgW _).trans (grown_drewN _ _ _)) (R.out.drewN _) rfl rfl
end Go.Proofs.YtocfmjiollafaaaGreatDoor
