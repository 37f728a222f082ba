import Derived.Test.YtocfmjiollafaaaGreatDoorSpnW
import Derived.Test.YtocfmjiollafaaaGreatDoorBeh
import Derived.Test.YtocfmjiollafaaaGreatDoorLets
import Derived.Deep.CutBlock
namespace Go.Proofs.YtocfmjiollafaaaGreatDoor
open Go.RowKit
set_option linter.unusedVariables false
set_option linter.unusedSimpArgs false
variable {α : Type}
theorem rc_ret {fn : Func} {R : Ending → World → Prop} {a : Act} {W : World} {g slot : Nat} {v0 v1 v2 v3 v4 v5 : Value} (hres : fn.results = #[.cell slot 26]) (ha : a.tmps[slot]?.getD undef = .pointer (some ⟨g, 0, none⟩)) (hd : a.defers = [])
    (hb : W.heap[g]? = some (.cells #[v0, v1, v2, v3, v4, v5] 26 (0, 0))) (hR : R (.returned (.agg #[v0, v1, v2, v3, v4, v5])) W) : bodyPost Tryz.prog fn R .ret a W := by
  have q0 := cells_at hb 0; have q1 := cells_at hb 1; have q2 := cells_at hb 2; have q3 := cells_at hb 3; have q4 := cells_at hb 4; have q5 := cells_at hb 5
  simp at q0 q1 q2 q3 q4 q5
  exact bodyPost_ret (v := .agg #[v0, v1, v2, v3, v4, v5]) (by simp [results, hres, ha, go_sem, q0, q1, q2, q3, q4, q5]) hd hR
/-- six cells put at once, and what is handed back -/
theorem rc_put {fn : Func} {R : Ending → World → Prop} {a : Act} {W : World} {g slot : Nat} {z0 z1 z2 z3 z4 z5 v0 v1 v2 v3 v4 v5 : Value} (hres : fn.results = #[.cell slot 26]) (ha : a.tmps[slot]?.getD undef = .pointer (some ⟨g, 0, none⟩)) (hd : a.defers = [])
    (hb : W.heap[g]? = some (.cells #[z0, z1, z2, z3, z4, z5] 26 (0, 0))) (hR : ∀ W6, W.grownBy W6 (some g) → R (.returned (.agg #[v0, v1, v2, v3, v4, v5])) W6) :
    bodyPost Tryz.prog fn R .ret a ((((((W.setCell ⟨g, 0, none⟩ v0).setCell ⟨g, 1, none⟩ v1).setCell ⟨g, 2, none⟩ v2).setCell ⟨g, 3, none⟩ v3).setCell ⟨g, 4, none⟩ v4).setCell ⟨g, 5, none⟩ v5) := by
  obtain ⟨W6, hW6, hb7, hg6⟩ := put6 hb v0 v1 v2 v3 v4 v5
  rw [hW6]
  exact rc_ret hres ha hd hb7 (hR W6 hg6)
theorem RcV.six {N : Nat → Prop} {x : Rc} {v : Value} {w : World} (h : RcV N x v w) : ∃ k A1 n1 c1 b A3 n3 c3 A4 n4 c4 A5 n5 c5, v = .agg #[.int .i64 k, .slice A1 n1 c1, .int .i64 b, .slice A3 n3 c3, .slice A4 n4 c4, .slice A5 n5 c5] := by
  obtain ⟨cs, rfl, hK⟩ := h
  obtain ⟨kind, set, b, rd, wr, l⟩ := x
  obtain ⟨A1, c1, A3, c3, A4, c4, A5, c5, hcs, _⟩ := kRc_iff.1 hK
  exact ⟨kind, A1, _, c1, b, A3, _, c3, A4, _, c4, A5, _, c5, by rw [show cs = ⟨cs.toList⟩ from rfl, hcs]⟩
theorem RcV.step {N N' : Nat → Prop} {x : Rc} {v : Value} {w w' : World} (hs : ∀ k, N k → N' k ∧ w'.heap[k]? = w.heap[k]?) (h : RcV N x v w) : RcV N' x v w' := by
  obtain ⟨cs, rfl, hK⟩ := h
  exact ⟨cs, rfl, kRc.step hs hK⟩
/-- a recipe that lies in memory which is new since a world -/
def RcF (w : World) (x : Rc) (v : Value) (w' : World) : Prop := RcV (fresh w w') x v w'
theorem RcF.to {w0 w w' w'' : World} {x : Rc} {v : Value} {row : Option Nat} (h : RcF w x v w') (h0 : w0.heap.size ≤ w.heap.size) (hg : w'.grownBy w'' row) (hr : ∀ k, row = some k → k < w.heap.size) : RcF w0 x v w'' :=
  RcV.step (fun k hk => ⟨⟨Nat.le_trans h0 hk.1, Nat.lt_of_lt_of_le hk.2 hg.size⟩, hg.block k hk.2 (fun e => by have := hr k e.symm; have := hk.1; omega)⟩) h
def allS : List Sp := [⟨0, 55295⟩, ⟨57344, 1114111⟩]
def rangesM : Nat → List Int → Nat → List Sp → Option (Pr (List Sp))
  | 0, _, _, _ => none
  | k + 1, l, i, acc => if sym l i = 93 then some (.ok acc i) else
    match letterM l false i with
    | .bad j => some (.bad j)
    | .ok lo j => if sym l j = 45 then
        match letterM l false (j + 1) with
        | .bad m => some (.bad m)
        | .ok hi m => if hi < lo then some (.bad (m - 1)) else rangesM k l m (acc ++ [⟨lo, hi⟩])
      else rangesM k l j (acc ++ [⟨lo, lo⟩])
def classE (l : List Int) (not : Bool) : Pr (List Sp) → Pr Rc
  | .bad j => .bad j
  | .ok r j => if not then (if minusM allS r = [] then .bad j else behindM l (j + 1) (meetM (minusM allS r) allS))
    else if r = [] then .ok (kAlt []) (j + 1) else behindM l (j + 1) (meetM r allS)
def classM (fuel : Nat) (l : List Int) (i : Nat) : Option (Pr Rc) :=
  (rangesM fuel l (if sym l i = 94 then i + 1 else i) []).map (classE l (sym l i == 94))
def EatPost (rb : Nat) (l : List Int) (i deep : Nat) (w : World) (x : Int) (e : Ending) (w' : World) : Prop :=
  e = .returned (.bool (decide (sym l i = x))) ∧ Rd rb l (if sym l i = x then i + 1 else i) deep w' ∧ w.grownBy w' (some rb)
theorem eat_any {rb : Nat} {l : List Int} {i deep : Nat} {w : World} (h : Rd rb l i deep w) (x : Int) (h0 : 0 ≤ x) :
    Calls Tryz.prog 50 #[.pointer (some ⟨rb, 0, none⟩), .int .i32 x] w (EatPost rb l i deep w x) := by
  by_cases hx : sym l i = x
  · refine (eat_yes h x hx h0).mono ?_
    rintro e w' ⟨v, rfl, rfl, hr, hg⟩
    exact ⟨by rw [decide_eq_true hx], by rw [if_pos hx]; exact hr, hg⟩
  · refine (eat_no h x hx).mono ?_
    rintro e w' ⟨rfl, n, rfl⟩
    exact ⟨by rw [decide_eq_false hx], by rw [if_neg hx]; exact h.drewN _, grown_drewN _ _ _⟩
theorem behind_ok {rb : Nat} {l : List Int} {i deep : Nat} {w : World} {set : List Sp} {A : Option Addr} {c : Nat} {x : Rc} {j : Nat} {N : Nat → Prop} (hN : ∀ k, N k → but w rb k) (hn : Hid (behindM l i set = .ok x j)) (hc : set.length ≤ c) (hS : kSp.C w N A set) (h : Rd rb l i deep w) :
    Calls Tryz.prog 79 #[.pointer (some ⟨rb, 0, none⟩), .slice A set.length c] w (RdOk rb l j deep w (RcV N x)) := by
  have := behind_any set A c hN hc hS h; rw [hn.out] at this; exact this
theorem behind_bad {rb : Nat} {l : List Int} {i deep : Nat} {w : World} {set : List Sp} {A : Option Addr} {c : Nat} {j : Nat} {N : Nat → Prop} (hN : ∀ k, N k → but w rb k) (hn : Hid (behindM l i set = .bad j)) (hc : set.length ≤ c) (hS : kSp.C w N A set) (h : Rd rb l i deep w) :
    Calls Tryz.prog 79 #[.pointer (some ⟨rb, 0, none⟩), .slice A set.length c] w (RdBad rb j w) := by
  have := behind_any set A c hN hc hS h; rw [hn.out] at this; exact this
theorem fresh_but {w w' : World} {rb : Nat} (h : rb < w.heap.size) : ∀ k, fresh w w' k → but w' rb k := fun k hk => ⟨hk.2, by have := hk.1; omega⟩
theorem minusM_len (a b : List Sp) : (minusM a b).length ≤ a.length + b.length + 1 := by
  unfold minusM meetM
  have h1 := normM_len a; have h2 := normM_len (gapsGo (-1073741824) (normM b)); have h3 := normM_len b
  rw [gapsGo_len] at h2
  exact Nat.le_trans (meetGo_len _ _ _) (by omega)
theorem meetM_len (a b : List Sp) : (meetM a b).length ≤ a.length + b.length := by
  unfold meetM
  have h1 := normM_len a; have h2 := normM_len b
  exact Nat.le_trans (meetGo_len _ _ _) (by omega)
def zero6 : Obj := .cells #[.int .i64 0, .slice none 0 0, .int .i64 0, .slice none 0 0, .slice none 0 0, .slice none 0 0] 26 (0, 0)
set_option maxRecDepth 100000 in
set_option maxHeartbeats 4000000 in
theorem class_any (fuel : Nat) {rb : Nat} {l : List Int} {i deep : Nat} {w : World} {r : Pr Rc} (h : Rd rb l i deep w) (hr : classM fuel l i = some r) :
    Calls Tryz.prog 80 #[.pointer (some ⟨rb, 0, none⟩)] w (PrPost rb l deep w (RcF w) r) := by
  have hrb := h.cells.choose_spec.choose_spec.1
  have H := Lib.hid h; clear h
  obtain ⟨W, hW, hb2, hgW, hWs⟩ := one_new w zero6
  have R := Lib.hid (H.out.kept hgW)
  unfold zero6 at hW hb2
  have HW := Lib.hid hW
  obtain ⟨rr, hrr, hre⟩ : ∃ rr, rangesM fuel l (if sym l i = 94 then i + 1 else i) [] = some rr ∧ classE l (sym l i == 94) rr = r := by
    unfold classM at hr
    cases h : rangesM fuel l (if sym l i = 94 then i + 1 else i) [] with
    | none => rw [h] at hr; cases hr
    | some rr => rw [h] at hr; exact ⟨rr, rfl, Option.some.inj hr⟩
  have HR := Lib.hid hrr; have HE := Lib.hid hre
  clear hW hr hrr hre
  go_enter Tryz.func80, Tryz.ntmps80
  go_wp2_with fail
  rw [HW.out]
  refine (eat_any R.out 94 (by decide)).mono ?_
  rintro e w1 ⟨rfl, hr1, hg1⟩
  obtain ⟨i0, hi0⟩ : ∃ i0, (if sym l i = 94 then i + 1 else i) = i0 := ⟨_, rfl⟩
  obtain ⟨bn, hbn⟩ : ∃ bn, (sym l i == 94) = bn := ⟨_, rfl⟩
  have hbn2 : decide (sym l i = 94) = bn := by rw [← hbn]; cases h : (sym l i == 94) <;> simp at h ⊢ <;> exact h
  rw [hi0] at hr1 HR; rw [hbn] at HE; rw [hbn2]
  have hb3 := (hg1.block w.heap.size (by omega) (by intro e; cases e; omega)).trans hb2
  have R1 := Lib.hid hr1
  have hg2 := (grown_any hgW (some rb)).trans hg1
  have hs1 := hg1.size
  clear hr1 hb2 hbn hbn2 hi0
  go_wp2_with fail
  go_loopg [4] fuel (fun k v wr => ∃ acc j, acc.length ≤ j ∧ Rd rb l j deep wr ∧ kSp.Own (fun _ => True) wr (w.heap.size + 1) 83 v acc ∧ w.grownBy wr (some rb) ∧ wr.heap[w.heap.size]? = some zero6 ∧ Hid (rangesM k l j acc = some rr))
  case atStart => exact ⟨[], i0, by simp, R1.out, Kd.Own.nil _ _ _ _ _, hg2, hb3, HR.out⟩
  case round =>
    obtain ⟨acc, j, haj, hrd, HO, hg, hbz, HL⟩ := hrel
    obtain ⟨A, c, hrb2, hlc, hl, hj, hd, hC, c0, c1, c2, f1, f2⟩ := hrd.cells
    have R := Lib.hid hrd; clear hrd hC c0 c1 c2 f1 f2
    obtain ⟨g, rfl⟩ : ∃ g, gk = g + 1 := by
      cases gk with
      | zero => have := HL.out; simp [rangesM] at this
      | succ g => exact ⟨g, rfl⟩
    have hrs := hg.size
    by_cases he : sym l j = 93
    · have hrr : Hid (rr = .ok acc j) := by
        have := HL.out
        rw [rangesM, if_pos he] at this
        exact (Option.some.inj this).symm
      have b1 : (sym l j != 93) = false := by simp [he]
      have HE93 := Lib.hid he
      clear he HL
      obtain ⟨Aa, ca, rfl, hca, hCa⟩ := HO.readsP plain_sp (fun k => w.heap.size + 1 ≤ k ∧ k < wr.heap.size) (fun k h1 h2 => ⟨h1, h2⟩) (by unfold maxN; omega)
      have CA := Lib.hid hCa
      clear hCa HO
      have hScal : ∀ w, Calls Tryz.prog 54 #[.int .i64 2] w (SlNew kSp w allS) := Scalars_new
      have hal : allS.length = 2 := rfl
      go_upto_if 41 with (first
        | (go_at_call 28; refine (next_any R.out).mono ?_; rintro e w' ⟨rfl, n, rfl⟩)
        | (go_at_call 54; refine (hScal _).mono ?_; rintro e w3 ⟨A3, c3, rfl, hc3, hC3, hg3⟩; have C3 := Lib.hid hC3; clear hC3))
      have hgn := grown_drewN wr n none
      have hgm := hgn.trans hg3
      have R3 := Lib.hid (R.out.kept hgm)
      have hg4 := hg.trans (grown_any hgm (some rb))
      have hbz3 := (hgm.block w.heap.size (by have := (Array.getElem?_eq_some_iff.1 hbz).1; exact this) (by simp)).trans hbz
      have CA3 := Lib.hid (CA.out.step (ok' := fun k => w.heap.size + 1 ≤ k ∧ k < w3.heap.size) (fun k hk => ⟨⟨hk.1, Nat.lt_of_lt_of_le hk.2 hgm.size⟩, hgm.block k hk.2 (by simp)⟩))
      have hs30 : w.heap.size + 1 ≤ (wr.drewN n).heap.size := (Array.getElem?_eq_some_iff.1 hbz).1
      have hs31 : w.heap.size + 1 ≤ w3.heap.size := Nat.le_trans hs30 hg3.size
      clear CA hbz
      by_cases hbm : bn = true ∧ minusM allS acc = []
      · have hrr2 : Hid (r = .bad j) := by
          show _ = _
          rw [← HE.out, hrr.out, hbm.1]
          simp only [classE, if_pos hbm.2, if_true]
        have hlen : ((minusM allS acc).length : Int) = 0 := by rw [hbm.2]; rfl
        obtain ⟨rfl, -⟩ := hbm
        go_wp2_with fail
        refine (Minus_any allS acc A3 Aa c3 ca w3 (by omega) (by omega) hc3 hca (C3.out.step (fun k hk => ⟨hk.2, rfl⟩)) (CA3.out.step (fun k hk => ⟨hk.2, rfl⟩))).mono ?_
        rintro e w4 ⟨A4, c4, rfl, hc4, hC4, hg5⟩
        have R4 := Lib.hid (R3.out.kept hg5)
        clear hC4
        go_wp2_with (go_at_call 29; refine (fail_any R4.out).mono ?_; rintro e w' ⟨rfl, hg9⟩)
        refine ⟨rfl, ?_⟩
        rw [hrr2.out]
        exact ⟨rfl, hg4.trans ((grown_any hg5 _).trans hg9)⟩
      · go_cut [4] (fun v w4 => ∃ S A4 c4, v = .slice A4 (S : List Sp).length c4 ∧ S.length ≤ c4 ∧ S.length ≤ 70000 ∧ kSp.C w4 (fun k => w.heap.size + 1 ≤ k ∧ k < w4.heap.size) A4 S ∧ w3.grownBy w4 none ∧ Hid (r = if S = [] then .ok (kAlt []) (j + 1) else behindM l (j + 1) (meetM S allS)))
        case first =>
          cases bn with
          | false =>
            go_wp2_with fail
            go_meet
            case rel => exact ⟨acc, Aa, ca, rfl, hca, by omega, CA3.out, World.grownBy.refl _ _, by
              show _ = _
              rw [← HE.out, hrr.out]
              simp only [classE, Bool.false_eq_true, if_false]⟩
          | true =>
            have hne : minusM allS acc ≠ [] := fun h => hbm ⟨rfl, h⟩
            have hln : ((minusM allS acc).length : Int) ≠ 0 := by
              have := List.length_pos_iff.2 hne
              omega
            have HNE := Lib.hid hne
            clear hne hbm
            go_wp2_with fail
            refine (Minus_new allS acc A3 Aa c3 ca w3 (by omega) (by omega) hc3 hca (C3.out.step (fun k hk => ⟨hk.2, rfl⟩)) (CA3.out.step (fun k hk => ⟨hk.2, rfl⟩))).mono ?_
            rintro e w4 ⟨A4, c4, rfl, hc4, hC4, hg5⟩
            have C4 := Lib.hid hC4
            clear hC4
            go_wp2_with fail
            go_meet
            case rel => exact ⟨_, A4, c4, rfl, hc4, by have := minusM_len allS acc; omega, C4.out.step (fun k hk => ⟨⟨Nat.le_trans hs31 hk.1, hk.2⟩, rfl⟩), hg5, by
              show _ = _
              rw [← HE.out, hrr.out]
              simp only [classE, if_true, if_neg HNE.out]⟩
        case rest =>
        obtain ⟨w4, hw4⟩ : ∃ w4, w4 = wc := ⟨_, rfl⟩
        subst hw4
        obtain ⟨S, A4, c4, rfl, hc4, hS4, hC4, hg5, hr5⟩ := hcut
        have R4 := Lib.hid (R3.out.kept hg5)
        obtain ⟨A5, c5, p1, p2, p3, p4, p5, p6, p7, p8, p9, p10, p11⟩ := R4.out.cells
        have C4 := Lib.hid hC4
        clear hC4 p6
        have hbz4 := (hg5.block w.heap.size (by have := (Array.getElem?_eq_some_iff.1 hbz3).1; exact this) (by simp)).trans hbz3
        have hjl : j + 1 ≤ l.length := by
          have := sym_lt (l := l) (i := j) (x := 93) HE93.out (by decide)
          omega
        have hgw := hg4.trans (grown_any hg5 (some rb))
        have C3' := Lib.hid (C3.out.step (ok' := live w3) (fun k hk => ⟨hk.2, rfl⟩))
        have R5 := Lib.hid (R4.out.putz ((j : Int) + 1) (j + 1) (by omega) hjl)
        have hg6 : w4.grownBy (w4.setCell ⟨rb, 1, none⟩ (.int .i64 ((j : Int) + 1))) (some rb) := grown_setCell w4 ⟨rb, 1, none⟩ (.int .i64 ((j : Int) + 1))
        have hbz5 := (hg6.block w.heap.size (by have := (Array.getElem?_eq_some_iff.1 hbz4).1; exact this) (by intro e; have := Option.some.inj e; omega)).trans hbz4
        unfold zero6 at hbz5
        have k0 := cells_at hbz5 0; have k1 := cells_at hbz5 1; have k2 := cells_at hbz5 2; have k3 := cells_at hbz5 3; have k4 := cells_at hbz5 4; have k5 := cells_at hbz5 5
        simp at k0 k1 k2 k3 k4 k5
        have hgw5 := hgw.trans hg6
        have B5 := Lib.hid hbz5
        have hbk : ∀ k, w.heap.size + 1 ≤ k → k < w4.heap.size → k < (w4.setCell ⟨rb, 1, none⟩ (.int .i64 ((j : Int) + 1))).heap.size ∧ (w4.setCell ⟨rb, 1, none⟩ (.int .i64 ((j : Int) + 1))).heap[k]? = w4.heap[k]? := fun k h1 h2 => ⟨Nat.lt_of_lt_of_le h2 hg6.size, hg6.block k h2 (by intro e; have := Option.some.inj e; omega)⟩
        have C4b := Lib.hid (C4.out.step (ok' := live (w4.setCell ⟨rb, 1, none⟩ (.int .i64 ((j : Int) + 1)))) (fun k hk => hbk k hk.1 hk.2))
        have C3b := Lib.hid (C3.out.step (ok' := live (w4.setCell ⟨rb, 1, none⟩ (.int .i64 ((j : Int) + 1)))) (fun k hk => by
          have h1 := hg5.block k hk.2 (by simp)
          have h2 := hbk k (by have := hk.1; have := hs30; omega) (Nat.lt_of_lt_of_le hk.2 hg5.size)
          exact ⟨h2.1, h2.2.trans h1⟩))
        clear hbk
        have G6 := Lib.hid hg6
        have G5 := Lib.hid hgw5
        clear hbz3 hbz4 hrr b1 HE93 hbz5 hg6 hgw5 hgw hg5 hg4 hg3 hgm hgn
        by_cases h0 : S.length = 0
        · obtain rfl := List.eq_nil_of_length_eq_zero h0
          simp only [if_true] at hr5
          have HR5 := Lib.hid hr5.out
          clear hr5
          go_wp2_with fail
          rw [HR5.out]
          refine rc_put rfl rfl rfl B5.out fun W6 hg7 => ?_
          have hg8 := grown_own G5.out hg7 (by intro k hk; cases hk; exact Nat.le_refl _)
          exact ⟨_, rfl, ⟨_, rfl, kRc_iff.2 ⟨none, 0, none, 0, none, 0, none, 0, rfl, by decide, by decide, ⟨Nat.le_refl _, Kd.C_nil _ _ _ _⟩, ⟨Nat.le_refl _, Kd.C_nil _ _ _ _⟩, ⟨Nat.le_refl _, Kd.C_nil _ _ _ _⟩, ⟨Nat.le_refl _, Kd.C_nil _ _ _ _⟩⟩⟩, R5.out.keptO hg7 (by intro k hk; cases hk; exact hrb), hg8⟩
        · have hne : S ≠ [] := by rintro rfl; exact h0 rfl
          have HR5 : Hid (r = behindM l (j + 1) (meetM S allS)) := by have := hr5.out; rwa [if_neg hne] at this
          clear hne hr5 hbm
          have hM := Meet_new S allS A4 A3 c4 c3 _ (by omega) (by omega) hc4 (by omega) C4b.out C3b.out
          have HM := Lib.hid hM
          clear hM
          go_wp2_with fail
          refine HM.out.mono ?_
          rintro e w6 ⟨A6, c6, rfl, hc6, hC6, hg7⟩
          have R6 := Lib.hid (R5.out.kept hg7)
          have hb6 := (hg7.block w.heap.size (by have := (Array.getElem?_eq_some_iff.1 B5.out).1; exact this) (by simp)).trans B5.out
          have C6 := Lib.hid hC6
          have hN6 := fresh_but (w' := w6) R5.out.cells.choose_spec.choose_spec.1
          have hlt5 := (Array.getElem?_eq_some_iff.1 B5.out).1
          have hgw6 := Lib.hid (G5.out.trans (grown_any hg7 (some rb)))
          clear hC6 hg7 HM k0 k1 k2 k3 k4 k5
          cases hB : behindM l (j + 1) (meetM S allS) with
          | bad q =>
            have HB := Lib.hid hB
            clear hB
            go_wp2_with fail
            refine (behind_bad hN6 HB hc6 C6.out R6.out).mono ?_
            rintro e w7 ⟨rfl, hg8⟩
            go_wp2_with fail
            refine ⟨rfl, ?_⟩
            rw [HR5.out, HB.out]
            exact ⟨rfl, hgw6.out.trans hg8⟩
          | ok x q =>
            have HB := Lib.hid hB
            clear hB
            go_wp2_with fail
            refine (behind_ok hN6 HB hc6 C6.out R6.out).mono ?_
            rintro e w7 ⟨v, rfl, hV, hR, hg8⟩
            have R7 := Lib.hid hR
            have hs78 := hg8.size
            have hb7 := (hg8.block w.heap.size (by have := (Array.getElem?_eq_some_iff.1 hb6).1; exact this) (by intro e; have := Option.some.inj e; omega)).trans hb6
            have hgw7 := Lib.hid (hgw6.out.trans hg8)
            obtain ⟨k, A1, n1, c1, b, A3', n3, c3', A4', n4, c4', A5', n5, c5', rfl⟩ := hV.six
            have HV := Lib.hid hV
            have k0 := cells_at hb7 0; have k1 := cells_at hb7 1; have k2 := cells_at hb7 2; have k3 := cells_at hb7 3; have k4 := cells_at hb7 4; have k5 := cells_at hb7 5
            simp at k0 k1 k2 k3 k4 k5
            have B7 := Lib.hid hb7
            clear hR hV hg8 hb6 hb7
            go_wp2_with fail
            rw [HR5.out, HB.out]
            refine rc_put rfl rfl rfl B7.out fun W6 hg9 => ?_
            have hg10 := grown_own hgw7.out hg9 (by intro k hk; cases hk; exact Nat.le_refl _)
            refine ⟨_, rfl, RcV.step ?_ HV.out, R7.out.keptO hg9 (by intro k hk; cases hk; exact hrb), hg10⟩
            intro q hq
            have hq2 : w.heap.size < q := Nat.lt_of_lt_of_le hlt5 hq.1
            have hq3 : q < w7.heap.size := Nat.lt_of_lt_of_le hq.2 hs78
            exact ⟨⟨Nat.le_of_lt hq2, Nat.lt_of_lt_of_le hq3 hg9.size⟩, hg9.block q hq3 (by intro e; have := Option.some.inj e; omega)⟩
    · have b1 : (sym l j != 93) = true := by simpa using he
      cases hN : letterM l false j with
      | bad m =>
        have hrr : Hid (rr = .bad m) := by
          have := HL.out
          rw [rangesM, if_neg he, hN] at this
          exact (Option.some.inj this).symm
        have HN := Lib.hid hN
        clear hN he
        go_wp2_with (first
          | (go_at_call 28; refine (next_any R.out).mono ?_; rintro e w' ⟨rfl, n, rfl⟩)
          | (go_at_call 82; refine (letter_bad false HN (R.out.drewN _)).mono ?_; rintro e w3 ⟨rfl, hg3⟩))
        refine ⟨rfl, ?_⟩
        rw [← HE.out, hrr.out]
        exact ⟨rfl, hg.trans ((grown_drewN _ _ _).trans hg3)⟩
      | ok lo m =>
        have hjm : j < m := letterM_lt hN
        have HL2 : Hid ((if sym l m = 45 then
            match letterM l false (m + 1) with
            | .bad m => some (.bad m)
            | .ok hi m => if hi < lo then some (.bad (m - 1)) else rangesM g l m (acc ++ [⟨lo, hi⟩])
          else rangesM g l m (acc ++ [⟨lo, lo⟩])) = some rr) := by
          have := HL.out
          rwa [rangesM, if_neg he, hN] at this
        have HN := Lib.hid hN
        clear hN he HL
        go_wp2_with (first
          | (go_at_call 28; refine (next_any R.out).mono ?_; rintro e w' ⟨rfl, n, rfl⟩)
          | (go_at_call 82; refine (letter_ok false HN (R.out.drewN _)).mono ?_; rintro e w3 ⟨_, rfl, ⟨rfl, hlo⟩, hr3, hg3⟩))
        have R3 := Lib.hid hr3
        have hg4 := (grown_drewN wr n (some rb)).trans hg3
        have HO3 := HO.keptP plain_sp hg4 (by intro k hk; cases hk; omega)
        have hbz3 := (hg4.block w.heap.size (by have := (Array.getElem?_eq_some_iff.1 hbz).1; omega) (by intro e; cases e; omega)).trans hbz
        have hg5 := hg.trans hg4
        clear hr3 hg3 hg4 HO hbz hg
        by_cases h45 : sym l m = 45
        · cases hN2 : letterM l false (m + 1) with
          | bad q =>
            have hrr : Hid (rr = .bad q) := by
              have := HL2.out
              rw [if_pos h45, hN2] at this
              exact (Option.some.inj this).symm
            have HN2 := Lib.hid hN2; have H45 := Lib.hid h45
            clear hN2 h45 HL2
            refine (eat_yes R3.out 45 H45.out (by decide)).mono ?_
            rintro e w4 ⟨_, rfl, rfl, hr4, hg6⟩
            have R4 := Lib.hid hr4
            clear hr4
            go_wp2_with (go_at_call 82; refine (letter_bad false HN2 R4.out).mono ?_; rintro e w5 ⟨rfl, hg7⟩)
            refine ⟨rfl, ?_⟩
            rw [← HE.out, hrr.out]
            exact ⟨rfl, hg5.trans (hg6.trans hg7)⟩
          | ok hi q =>
            have hmq := letterM_lt hN2
            have HN2 := Lib.hid hN2; have H45 := Lib.hid h45
            refine (eat_yes R3.out 45 H45.out (by decide)).mono ?_
            rintro e w4 ⟨_, rfl, rfl, hr4, hg6⟩
            have R4 := Lib.hid hr4
            clear hr4
            go_wp2_with fail
            refine (letter_ok false HN2 R4.out).mono ?_
            rintro e w5 ⟨_, rfl, ⟨rfl, hhi⟩, hr5, hg7⟩
            obtain ⟨A5, c5, p1, p2, p3, p4, p5, p6, p7, p8, p9, p10, p11⟩ := hr5.cells
            have R5 := Lib.hid hr5
            clear hr5 p6
            by_cases hlt : hi < lo
            · have hrr : Hid (rr = .bad (q - 1)) := by
                have := HL2.out
                rw [if_pos h45, hN2] at this
                simp only [if_pos hlt] at this
                exact (Option.some.inj this).symm
              clear h45 hN2 HL2
              go_wp2_with fail
              refine (fail_any (R5.out.putz ((q : Int) - 1) (q - 1) (by omega) (by omega))).mono ?_
              rintro e w' ⟨rfl, hg9⟩
              go_wp2_with fail
              refine ⟨rfl, ?_⟩
              rw [← HE.out, hrr.out]
              exact ⟨rfl, hg5.trans (hg6.trans (hg7.trans ((grown_setCell w5 ⟨rb, 1, none⟩ _).trans hg9)))⟩
            · have HL3 : Hid (rangesM g l q (acc ++ [⟨lo, hi⟩]) = some rr) := by
                have := HL2.out
                rw [if_pos h45, hN2] at this
                simp only [if_neg hlt] at this
                exact this
              clear h45 hN2 HL2
              have hwl : wrap64 lo = lo := by unfold I32 at hlo; unfold wrap64; omega
              have hwh : wrap64 hi = hi := by unfold I32 at hhi; unfold wrap64; omega
              have hg8 := hg6.trans hg7
              have HO4 := HO3.keptP plain_sp hg8 (by intro k hk; cases hk; omega)
              have hbz4 := (hg8.block w.heap.size (by have := (Array.getElem?_eq_some_iff.1 hbz3).1; exact this) (by intro e; cases e; omega)).trans hbz3
              have hg9 := hg5.trans hg8
              have hs6 := hg9.size
              go_wp2_with (at_builtin; go_must (refine wp_app kSp (W := w5) (w0 := w) (row0 := some rb) (w.heap.size + 1) rfl _ _ _ 83 (.agg #[.int .i64 0, .int .i64 0]) 16 rfl Tryz.underlying22 info83 rfl ⟨by decide, by decide⟩ u4 acc ⟨lo, hi⟩ #[.int .i64 lo, .int .i64 hi] rfl rfl HO4 ⟨rfl, ?d1, ?d4⟩ hg9 ⟨by omega, ?d2⟩ ?d3 ?_))
              case d1 => unfold I32 at hlo; unfold I64; omega
              case d4 => unfold I32 at hhi; unfold I64; omega
              case d2 => have := hrs; have := (Array.getElem?_eq_some_iff.1 hbz4).1; omega
              case d3 => omega
              intro v1 w6 HO6 hg10 hg11
              have R6 := Lib.hid (R5.out.keptO hg11 (fun k hk => by have := (HO4.base k hk).1; omega))
              have hbz5 := (hg11.block w.heap.size (by have := (Array.getElem?_eq_some_iff.1 hbz4).1; exact this) (by intro e; have := (HO4.base _ e.symm).1; omega)).trans hbz4
              go_wp2_with fail
              go_roundg g
              case measure => omega
              case rel => exact ⟨acc ++ [⟨lo, hi⟩], q, by simp; omega, R6.out, HO6, hg10, hbz5, HL3⟩
        · have HL3 : Hid (rangesM g l m (acc ++ [⟨lo, lo⟩]) = some rr) := by
            have := HL2.out
            rwa [if_neg h45] at this
          have H45 := Lib.hid h45
          clear h45 HL2
          refine (eat_no R3.out 45 H45.out).mono ?_
          rintro e w4 ⟨rfl, n4, rfl⟩
          have hwl : wrap64 lo = lo := by unfold I32 at hlo; unfold wrap64; omega
          have HO4 := HO3.keptP plain_sp (grown_drewN w3 n4 (some rb)) (by intro k hk; cases hk; omega)
          have hg6 := hg5.trans (grown_drewN w3 n4 (some rb))
          have hs6 := hg6.size
          go_wp2_with (at_builtin; go_must (refine wp_app kSp (W := w3.drewN n4) (w0 := w) (row0 := some rb) (w.heap.size + 1) rfl _ _ _ 83 (.agg #[.int .i64 0, .int .i64 0]) 16 rfl Tryz.underlying22 info83 rfl ⟨by decide, by decide⟩ u4 acc ⟨lo, lo⟩ #[.int .i64 lo, .int .i64 lo] rfl rfl HO4 ⟨rfl, ?d1, ?d1⟩ hg6 ⟨by omega, ?d2⟩ ?d3 ?_))
          case d1 => unfold I32 at hlo; unfold I64; omega
          case d2 => show _ ≤ w3.heap.size; have := (Array.getElem?_eq_some_iff.1 hbz3).1; omega
          case d3 => omega
          intro v1 w5 HO5 hg7 hg8
          have R5 := Lib.hid ((R3.out.drewN n4).keptO hg8 (fun k hk => by have := (HO4.base k hk).1; omega))
          have hbz5 := (hg8.block w.heap.size (by have := (Array.getElem?_eq_some_iff.1 hbz3).1; exact this) (by intro e; have := (HO4.base _ e.symm).1; omega)).trans hbz3
          go_wp2_with fail
          go_roundg g
          case measure => omega
          case rel => exact ⟨acc ++ [⟨lo, lo⟩], m, by simp; omega, R5.out, HO5, hg7, hbz5, HL3⟩
end Go.Proofs.YtocfmjiollafaaaGreatDoor
