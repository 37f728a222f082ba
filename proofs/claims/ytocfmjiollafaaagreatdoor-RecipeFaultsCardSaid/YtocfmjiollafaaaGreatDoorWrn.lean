import Derived.Test.YtocfmjiollafaaaGreatDoorWrp
namespace Go.Proofs.YtocfmjiollafaaaGreatDoor
open Go.RowKit
set_option linter.unusedVariables false
set_option linter.unusedSimpArgs false
def Rc.kind : Rc → Int | .mk k _ _ _ _ _ => k
def Rc.set : Rc → List Sp | .mk _ s _ _ _ _ => s
def Rc.by_ : Rc → Int | .mk _ _ b _ _ _ => b
def Rc.rd : Rc → List Int | .mk _ _ _ r _ _ => r
def Rc.wt : Rc → List Int | .mk _ _ _ _ w _ => w
def Rc.l : Rc → List Rc | .mk _ _ _ _ _ l => l
def bareB (n : Rc) (sa : Int) : Bool :=
  if n.kind = 5 ∧ 1 < n.l.length then decide (sa = 0) else if n.kind = 4 ∧ n.l.length ≠ 1 then decide (sa ≤ 1) else if n.kind = 6 then decide (sa ≤ 2) else true
def BoolGr (w : World) (b : Bool) (e : Ending) (w' : World) : Prop := e = .returned (.bool b) ∧ w.grownBy w' none
theorem boolGr {w w' : World} {a b : Bool} (hg : w.grownBy w' none) (h : a = b) : BoolGr w b (.returned (.bool a)) w' := ⟨by rw [h], hg⟩
set_option maxRecDepth 100000 in
set_option maxHeartbeats 1000000 in
theorem bare_any {N : Nat → Prop} {n : Rc} {u : Value} {w : World} (sa : Int) (ha : 0 ≤ sa ∧ sa ≤ 3) (hu : RcV N n u w) : Calls Tryz.prog 35 #[u, .int .i64 sa] w (BoolGr w (bareB n sa)) := by
  obtain ⟨kind, set, by_, r, wt, l⟩ := n
  obtain ⟨A1, c1, A3, c3, A4, c4, A5, c5, rfl, hk, hb, h1, h3, h4, h5⟩ := hu.cells
  have hl5 := h5.1
  have hg : ∀ o, w.grownBy (w.alloc o) none := fun o => World.grownBy_alloc w o none
  have HG := Lib.hid hg
  have hlen : l.length ≤ 9223372036854775807 := by have := h5.2.1; unfold maxN at this; omega
  clear hu h1 h3 h4 h5 hg
  by_cases e5 : kind = 5
  · subst e5
    by_cases e : 1 < l.length
    · have he : bareB (.mk 5 set by_ r wt l) sa = decide (sa = 0) := by simp [bareB, Rc.kind, Rc.l, e]
      have HE := Lib.hid he
      have e' : (1 : Int) < (l.length : Int) := by omega
      clear he e
      go_enter Tryz.func35, Tryz.ntmps35
      go_wp2
      go_ret
      exact boolGr (HG.out _) (by rw [HE.out]; rfl)
    · have he : bareB (.mk 5 set by_ r wt l) sa = true := by simp [bareB, Rc.kind, Rc.l, e]
      have HE := Lib.hid he
      have e' : ¬ (1 : Int) < (l.length : Int) := by omega
      clear he e
      go_enter Tryz.func35, Tryz.ntmps35
      go_wp2
      go_ret
      exact boolGr (HG.out _) (by rw [HE.out])
  have n5 : (kind == 5) = false := by simpa using e5
  by_cases e4 : kind = 4
  · subst e4
    by_cases e : l.length = 1
    · have he : bareB (.mk 4 set by_ r wt l) sa = true := by simp [bareB, Rc.kind, Rc.l, e]
      have HE := Lib.hid he
      have e' : ((l.length : Int) != 1) = false := by simp [e]
      clear he e n5 e5
      go_enter Tryz.func35, Tryz.ntmps35
      go_wp2
      go_ret
      exact boolGr (HG.out _) (by rw [HE.out])
    · have he : bareB (.mk 4 set by_ r wt l) sa = decide (sa ≤ 1) := by simp [bareB, Rc.kind, Rc.l, e]
      have HE := Lib.hid he
      have e' : ((l.length : Int) != 1) = true := by simp; omega
      clear he e n5 e5
      go_enter Tryz.func35, Tryz.ntmps35
      go_wp2
      go_ret
      exact boolGr (HG.out _) (by rw [HE.out])
  have n4 : (kind == 4) = false := by simpa using e4
  by_cases e6 : kind = 6
  · subst e6
    have he : bareB (.mk 6 set by_ r wt l) sa = decide (sa ≤ 2) := by simp [bareB, Rc.kind, Rc.l]
    have HE := Lib.hid he
    clear he n5 e5 n4 e4
    go_enter Tryz.func35, Tryz.ntmps35
    go_wp2
    go_ret
    exact boolGr (HG.out _) (by rw [HE.out])
  · have n6 : (kind == 6) = false := by simpa using e6
    have he : bareB (.mk kind set by_ r wt l) sa = true := by simp [bareB, Rc.kind, Rc.l, e5, e4, e6]
    have HE := Lib.hid he
    clear he e5 e4 e6
    go_enter Tryz.func35, Tryz.ntmps35
    go_wp2
    go_ret
    exact boolGr (HG.out _) (by rw [HE.out])
theorem RcV.stp {N N' : Nat → Prop} {x : Rc} {v : Value} {w w' : World} (hs : ∀ k, N k → N' k ∧ w'.heap[k]? = w.heap[k]?) (h : RcV N x v w) : RcV N' x v w' := by
  obtain ⟨cs, rfl, hK⟩ := h
  exact ⟨cs, rfl, kRc.step hs hK⟩
/-- a recipe in a variable of its own -/
def BoxF (N : Nat → Prop) (g : Nat) (m : Rc) (w : World) : Prop := ∃ cs, w.heap[g]? = some (.cells cs 26 (0, 0)) ∧ RcV N m (.agg cs) w
theorem BoxF.six {N : Nat → Prop} {g : Nat} {kind by_ : Int} {set : List Sp} {r wt : List Int} {l : List Rc} {w : World} (h : BoxF N g (.mk kind set by_ r wt l) w) :
    ∃ A1 c1 A3 c3 A4 c4 A5 c5, w.heap[g]? = some (.cells #[.int .i64 kind, .slice A1 set.length c1, .int .i64 by_, .slice A3 r.length c3, .slice A4 wt.length c4, .slice A5 l.length c5] 26 (0, 0)) ∧ I64 kind ∧ I64 by_ ∧
      (set.length ≤ c1 ∧ kSp.C w N A1 set) ∧ (r.length ≤ c3 ∧ kRune.C w N A3 r) ∧ (wt.length ≤ c4 ∧ kRune.C w N A4 wt) ∧ (l.length ≤ c5 ∧ kRc.C w N A5 l) := by
  obtain ⟨cs, hh, hu⟩ := h
  obtain ⟨A1, c1, A3, c3, A4, c4, A5, c5, e, h⟩ := hu.cells
  injection e with e'
  rw [e'] at hh
  exact ⟨A1, c1, A3, c3, A4, c4, A5, c5, hh, h⟩
/-- an element of a list of recipes: its six cells -/
theorem Kd.C.rc {w : World} {ok : Nat → Prop} {A : Option Addr} {xs : List Rc} (h : kRc.C w ok A xs) (k : Nat) (hk : k < xs.length) :
    ∃ b o x cs, A = some ⟨b, o, none⟩ ∧ ok b ∧ xs[k]? = some x ∧ kRc.K w ok x cs ∧ cs.length = 6 ∧ ∀ j u, cs[j]? = some u → w.cell? ⟨b, o + k * 6 + j, none⟩ = some u := by
  obtain ⟨b, o, x, hA, hb, ⟨cs, hK, hc⟩, h1, h2⟩ := h.at_ k hk
  exact ⟨b, o, x, cs, hA, hb, h1, hK, kRc.len hK, hc⟩
theorem six_of {cs : List Value} (h : cs.length = 6) : ∃ a0 a1 a2 a3 a4 a5, cs = [a0, a1, a2, a3, a4, a5] := by
  match cs, h with
  | [a0, a1, a2, a3, a4, a5], _ => exact ⟨a0, a1, a2, a3, a4, a5, rfl⟩
def digPick (n : Rc) : Rc := if n.kind = 6 ∧ n.l.length = 1 then n.l.headD n else n
def digM (m : Rc) : Bool := decide (m.kind = 3) && (decide (m.rd.length = 1) && (decide (m.wt.length = 1) && (decide (m.rd.getD 0 0 = m.wt.getD 0 0) && (decide (48 ≤ m.rd.getD 0 0) && decide (m.rd.getD 0 0 ≤ 57)))))
def digitB (n : Rc) : Bool := digM (digPick n)
set_option maxRecDepth 100000 in
set_option maxHeartbeats 2000000 in
theorem digit_any {N : Nat → Prop} {n : Rc} {u : Value} {w : World} (hN : ∀ k, N k → k < w.heap.size) (hu : RcV N n u w) : Calls Tryz.prog 61 #[u] w (BoolGr w (digitB n)) := by
  obtain ⟨kind, set, by_, r, wt, l⟩ := n
  obtain ⟨A1, c1, A3, c3, A4, c4, A5, c5, rfl, hk, hb, h1, h3, h4, h5⟩ := hu.cells
  obtain ⟨W, hW, hb2, hgW, hWs⟩ := one_new w (.cells #[.int .i64 kind, .slice A1 set.length c1, .int .i64 by_, .slice A3 r.length c3, .slice A4 wt.length c4, .slice A5 l.length c5] 26)
  have hNW : ∀ k, N k → N k ∧ W.heap[k]? = w.heap[k]? := fun k hk => ⟨hk, hgW.block k (hN k hk) (by simp)⟩
  have HU := Lib.hid (RcV.stp hNW hu)
  have C5 := Lib.hid (h5.2.step hNW)
  have HW := Lib.hid hW
  have HN := Lib.hid hN
  have k0 := cells_at hb2 0; have k1 := cells_at hb2 1; have k2 := cells_at hb2 2; have k3 := cells_at hb2 3; have k4 := cells_at hb2 4; have k5 := cells_at hb2 5
  simp at k0 k1 k2 k3 k4 k5
  have hl5 := h5.1
  have hlen : l.length ≤ 9223372036854775807 := by have := h5.2.1; unfold maxN at this; omega
  have B2 := Lib.hid hb2
  clear hu h1 h3 h4 hW hNW hN
  have hcase : (kind = 6 ∧ l.length = 1) ∨ (kind = 6 ∧ l.length ≠ 1) ∨ kind ≠ 6 := by omega
  rcases hcase with ⟨e6, e1⟩ | ⟨e6, e1⟩ | e6
  · obtain ⟨b, o, x, cs, rfl, hnb, hx, hK, hcl, hc⟩ := C5.out.rc 0 (by omega)
    obtain ⟨xk, xs, xb, xr, xw, xl⟩ := x
    obtain ⟨B1, d1, B3, d3, B4, d4, B5, d5, rfl, hK'⟩ := kRc_iff.1 hK
    clear hK'
    have z0 := hc 0 _ rfl; have z1 := hc 1 _ rfl; have z2 := hc 2 _ rfl; have z3 := hc 3 _ rfl; have z4 := hc 4 _ rfl; have z5 := hc 5 _ rfl
    simp only [Nat.zero_mul, Nat.add_zero] at z0 z1 z2 z3 z4 z5
    have bl : (0 : Int) < (l.length : Int) := by omega
    have be : ((l.length : Int) == 1) = true := by simp [e1]
    have hm : digPick (.mk kind set by_ r wt l) = .mk xk xs xb xr xw xl := by
      unfold digPick
      rw [if_pos ⟨e6, e1⟩]
      cases l with
      | nil => simp at e1
      | cons y l => have hx' : y = .mk xk xs xb xr xw xl := by simpa using hx
                    rw [hx']; rfl
    subst e6
    obtain ⟨W6, hW6, hb6, hg6⟩ := put6 B2.out (.int .i64 xk) (.slice B1 xs.length d1) (.int .i64 xb) (.slice B3 xr.length d3) (.slice B4 xw.length d4) (.slice B5 xl.length d5)
    have hbx : BoxF N w.heap.size (.mk xk xs xb xr xw xl) W6 := ⟨_, hb6, _, rfl, kRc.step (fun k hk => ⟨hk, hg6.block k (by have := HN.out k hk; omega) (by intro e; have := Option.some.inj e; have := HN.out k hk; omega)⟩) hK⟩
    have hg := grown_own hgW hg6 (by intro k hk; cases hk; exact Nat.le_refl _)
    have HM := Lib.hid hm; have HB := Lib.hid hbx; have HW6 := Lib.hid hW6
    clear hm hbx hW6 hb6 hcl hc hK hx e1 h5 hb2 hg6
    go_enter Tryz.func61, Tryz.ntmps61
    go_upto_if 11 with (fail)
    rw [HW.out]
    go_wp2_with fail
    rw [HW6.out]
    obtain ⟨E1, m1, E3, m3, E4, m4, E5, m5, hE, _, _, _, hE3, hE4, _⟩ := HB.out.six
    have CR := Lib.hid hE3.2; have CT := Lib.hid hE4.2
    have q0 := cells_at hE 0; have q3 := cells_at hE 3; have q4 := cells_at hE 4
    simp at q0 q3 q4
    have qr := hE3.1; have qt := hE4.1
    have HGG := Lib.hid hg
    have HDB : Hid (digitB (Rc.mk 6 set by_ r wt l) = digM (Rc.mk xk xs xb xr xw xl)) := by unfold digitB; exact congrArg digM HM.out
    clear hE hE3 hE4
    by_cases f3 : xk = 3
    · by_cases f1 : (xr).length = 1
      · by_cases f2 : (xw).length = 1
        · obtain ⟨bx, ox, x, hAx, hnx, ix, jx, gx, dx⟩ := CR.out.rune 0 (by omega)
          obtain ⟨by', oy, y, hAy, hny, iy, jy, gy, dy⟩ := CT.out.rune 0 (by omega)
          have hx0 : (xr).getD 0 0 = x := by simp [List.getD_eq_getElem?_getD, gx]
          have hy0 : (xw).getD 0 0 = y := by simp [List.getD_eq_getElem?_getD, gy]
          have b1 : (((xr).length : Int) == 1) = true := by simp [f1]
          have b2 : (((xw).length : Int) == 1) = true := by simp [f2]
          have bp1 : (0 : Int) < ((xr).length : Int) := by omega
          have bp2 : (0 : Int) < ((xw).length : Int) := by omega
          have b3 : (xk == 3) = true := by simp [f3]
          simp only [Nat.add_zero] at ix iy
          subst hAx hAy
          clear gx gy dx dy
          by_cases f4 : x = y
          · subst f4
            by_cases f5 : 48 ≤ x
            · by_cases f6 : x ≤ 57
              · have hd : digM (Rc.mk xk xs xb xr xw xl) = true := by
                  show (decide (xk = 3) && (decide ((xr).length = 1) && (decide ((xw).length = 1) && (decide ((xr).getD 0 0 = (xw).getD 0 0) && (decide (48 ≤ (xr).getD 0 0) && decide ((xr).getD 0 0 ≤ 57)))))) = _
                  rw [hx0, hy0]
                  simp [f3, f1, f2, f5, f6]
                have HD := Lib.hid hd
                clear hd f3 f1 f2 hx0 hy0
                go_quiet (fail)
                go_wp2_with fail
                go_ret
                exact boolGr (HGG.out.trans (grown_drewN _ _ _)) (by rw [HDB.out, HD.out])
              · have hd : digM (Rc.mk xk xs xb xr xw xl) = false := by
                  show (decide (xk = 3) && (decide ((xr).length = 1) && (decide ((xw).length = 1) && (decide ((xr).getD 0 0 = (xw).getD 0 0) && (decide (48 ≤ (xr).getD 0 0) && decide ((xr).getD 0 0 ≤ 57)))))) = _
                  rw [hx0, hy0]
                  simp [f3, f1, f2, f5, f6]
                have HD := Lib.hid hd
                clear hd f3 f1 f2 hx0 hy0
                go_quiet (fail)
                go_wp2_with fail
                go_ret
                exact boolGr (HGG.out.trans (grown_drewN _ _ _)) (by rw [HDB.out, HD.out])
            · have hd : digM (Rc.mk xk xs xb xr xw xl) = false := by
                show (decide (xk = 3) && (decide ((xr).length = 1) && (decide ((xw).length = 1) && (decide ((xr).getD 0 0 = (xw).getD 0 0) && (decide (48 ≤ (xr).getD 0 0) && decide ((xr).getD 0 0 ≤ 57)))))) = _
                rw [hx0, hy0]
                simp [f3, f1, f2, f5]
              have HD := Lib.hid hd
              clear hd f3 f1 f2 hx0 hy0
              go_quiet (fail)
              go_wp2_with fail
              go_ret
              exact boolGr (HGG.out.trans (grown_drewN _ _ _)) (by rw [HDB.out, HD.out])
          · have hd : digM (Rc.mk xk xs xb xr xw xl) = false := by
              show (decide (xk = 3) && (decide ((xr).length = 1) && (decide ((xw).length = 1) && (decide ((xr).getD 0 0 = (xw).getD 0 0) && (decide (48 ≤ (xr).getD 0 0) && decide ((xr).getD 0 0 ≤ 57)))))) = _
              rw [hx0, hy0]
              simp [f3, f1, f2, f4]
            have HD := Lib.hid hd
            have b4 : (x == y) = false := by simpa using f4
            clear hd f3 f1 f2 hx0 hy0 f4
            go_quiet (fail)
            go_wp2_with fail
            go_ret
            exact boolGr (HGG.out.trans (grown_drewN _ _ _)) (by rw [HDB.out, HD.out])
        · have hd : digM (Rc.mk xk xs xb xr xw xl) = false := by
            show (decide (xk = 3) && (decide ((xr).length = 1) && (decide ((xw).length = 1) && (decide ((xr).getD 0 0 = (xw).getD 0 0) && (decide (48 ≤ (xr).getD 0 0) && decide ((xr).getD 0 0 ≤ 57)))))) = _
            simp [f2]
          have HD := Lib.hid hd
          have b1 : (((xr).length : Int) == 1) = true := by simp [f1]
          have b2 : (((xw).length : Int) == 1) = false := by simp; omega
          have b3 : (xk == 3) = true := by simp [f3]
          clear hd f3 f1 f2
          go_quiet (fail)
          go_wp2_with fail
          go_ret
          exact boolGr (HGG.out.trans (grown_drewN _ _ _)) (by rw [HDB.out, HD.out])
      · have hd : digM (Rc.mk xk xs xb xr xw xl) = false := by
          show (decide (xk = 3) && (decide ((xr).length = 1) && (decide ((xw).length = 1) && (decide ((xr).getD 0 0 = (xw).getD 0 0) && (decide (48 ≤ (xr).getD 0 0) && decide ((xr).getD 0 0 ≤ 57)))))) = _
          simp [f1]
        have HD := Lib.hid hd
        have b1 : (((xr).length : Int) == 1) = false := by simp; omega
        have b3 : (xk == 3) = true := by simp [f3]
        clear hd f3 f1
        go_quiet (fail)
        go_wp2_with fail
        go_ret
        exact boolGr (HGG.out.trans (grown_drewN _ _ _)) (by rw [HDB.out, HD.out])
    · have hd : digM (Rc.mk xk xs xb xr xw xl) = false := by
        show (decide (xk = 3) && (decide ((xr).length = 1) && (decide ((xw).length = 1) && (decide ((xr).getD 0 0 = (xw).getD 0 0) && (decide (48 ≤ (xr).getD 0 0) && decide ((xr).getD 0 0 ≤ 57)))))) = _
        simp [f3]
      have HD := Lib.hid hd
      have b3 : (xk == 3) = false := by simpa using f3
      clear hd f3
      go_quiet (fail)
      go_wp2_with fail
      go_ret
      exact boolGr (HGG.out.trans (grown_drewN _ _ _)) (by rw [HDB.out, HD.out])
  · subst e6
    have be : ((l.length : Int) == 1) = false := by simp; omega
    have hm : digPick (.mk 6 set by_ r wt l) = .mk 6 set by_ r wt l := by
      unfold digPick
      rw [if_neg (by simp only [Rc.kind, Rc.l]; omega)]
    have hbx : BoxF N w.heap.size (.mk 6 set by_ r wt l) W := ⟨_, B2.out, HU.out⟩
    have hg := hgW
    have HM := Lib.hid hm; have HB := Lib.hid hbx
    clear hm hbx hb2 h5 C5
    go_enter Tryz.func61, Tryz.ntmps61
    go_upto_if 11 with (fail)
    rw [HW.out]
    go_wp2_with fail
    clear k0 k1 k2 k3 k4 k5
    obtain ⟨E1, m1, E3, m3, E4, m4, E5, m5, hE, _, _, _, hE3, hE4, _⟩ := HB.out.six
    have CR := Lib.hid hE3.2; have CT := Lib.hid hE4.2
    have q0 := cells_at hE 0; have q3 := cells_at hE 3; have q4 := cells_at hE 4
    simp at q0 q3 q4
    have qr := hE3.1; have qt := hE4.1
    have HGG := Lib.hid hg
    have HDB : Hid (digitB (Rc.mk 6 set by_ r wt l) = digM (Rc.mk 6 set by_ r wt l)) := by unfold digitB; exact congrArg digM HM.out
    clear hE hE3 hE4
    by_cases f3 : 6 = 3
    · exact absurd f3 (by decide)
    · have hd : digM (Rc.mk 6 set by_ r wt l) = false := by
        show (decide (6 = 3) && (decide ((r).length = 1) && (decide ((wt).length = 1) && (decide ((r).getD 0 0 = (wt).getD 0 0) && (decide (48 ≤ (r).getD 0 0) && decide ((r).getD 0 0 ≤ 57)))))) = _
        simp [f3]
      have HD := Lib.hid hd
      clear hd
      go_quiet (fail)
      go_wp2_with fail
      go_ret
      exact boolGr (HGG.out.trans (grown_drewN _ _ _)) (by rw [HDB.out, HD.out])
  · have be6 : (kind == 6) = false := by simpa using e6
    have hm : digPick (.mk kind set by_ r wt l) = .mk kind set by_ r wt l := by
      unfold digPick
      rw [if_neg (by simp only [Rc.kind, Rc.l]; omega)]
    have hbx : BoxF N w.heap.size (.mk kind set by_ r wt l) W := ⟨_, B2.out, HU.out⟩
    have hg := hgW
    have HM := Lib.hid hm; have HB := Lib.hid hbx
    clear hm hbx hb2 h5 C5
    go_enter Tryz.func61, Tryz.ntmps61
    go_upto_if 11 with (fail)
    rw [HW.out]
    go_wp2_with fail
    clear k0 k1 k2 k3 k4 k5
    obtain ⟨E1, m1, E3, m3, E4, m4, E5, m5, hE, _, _, _, hE3, hE4, _⟩ := HB.out.six
    have CR := Lib.hid hE3.2; have CT := Lib.hid hE4.2
    have q0 := cells_at hE 0; have q3 := cells_at hE 3; have q4 := cells_at hE 4
    simp at q0 q3 q4
    have qr := hE3.1; have qt := hE4.1
    have HGG := Lib.hid hg
    have HDB : Hid (digitB (Rc.mk kind set by_ r wt l) = digM (Rc.mk kind set by_ r wt l)) := by unfold digitB; exact congrArg digM HM.out
    clear hE hE3 hE4
    by_cases f3 : kind = 3
    · by_cases f1 : (r).length = 1
      · by_cases f2 : (wt).length = 1
        · obtain ⟨bx, ox, x, hAx, hnx, ix, jx, gx, dx⟩ := CR.out.rune 0 (by omega)
          obtain ⟨by', oy, y, hAy, hny, iy, jy, gy, dy⟩ := CT.out.rune 0 (by omega)
          have hx0 : (r).getD 0 0 = x := by simp [List.getD_eq_getElem?_getD, gx]
          have hy0 : (wt).getD 0 0 = y := by simp [List.getD_eq_getElem?_getD, gy]
          have b1 : (((r).length : Int) == 1) = true := by simp [f1]
          have b2 : (((wt).length : Int) == 1) = true := by simp [f2]
          have bp1 : (0 : Int) < ((r).length : Int) := by omega
          have bp2 : (0 : Int) < ((wt).length : Int) := by omega
          have b3 : (kind == 3) = true := by simp [f3]
          simp only [Nat.add_zero] at ix iy
          subst hAx hAy
          clear gx gy dx dy
          by_cases f4 : x = y
          · subst f4
            by_cases f5 : 48 ≤ x
            · by_cases f6 : x ≤ 57
              · have hd : digM (Rc.mk kind set by_ r wt l) = true := by
                  show (decide (kind = 3) && (decide ((r).length = 1) && (decide ((wt).length = 1) && (decide ((r).getD 0 0 = (wt).getD 0 0) && (decide (48 ≤ (r).getD 0 0) && decide ((r).getD 0 0 ≤ 57)))))) = _
                  rw [hx0, hy0]
                  simp [f3, f1, f2, f5, f6]
                have HD := Lib.hid hd
                clear hd f3 f1 f2 hx0 hy0
                go_quiet (fail)
                go_wp2_with fail
                go_ret
                exact boolGr (HGG.out.trans (grown_drewN _ _ _)) (by rw [HDB.out, HD.out])
              · have hd : digM (Rc.mk kind set by_ r wt l) = false := by
                  show (decide (kind = 3) && (decide ((r).length = 1) && (decide ((wt).length = 1) && (decide ((r).getD 0 0 = (wt).getD 0 0) && (decide (48 ≤ (r).getD 0 0) && decide ((r).getD 0 0 ≤ 57)))))) = _
                  rw [hx0, hy0]
                  simp [f3, f1, f2, f5, f6]
                have HD := Lib.hid hd
                clear hd f3 f1 f2 hx0 hy0
                go_quiet (fail)
                go_wp2_with fail
                go_ret
                exact boolGr (HGG.out.trans (grown_drewN _ _ _)) (by rw [HDB.out, HD.out])
            · have hd : digM (Rc.mk kind set by_ r wt l) = false := by
                show (decide (kind = 3) && (decide ((r).length = 1) && (decide ((wt).length = 1) && (decide ((r).getD 0 0 = (wt).getD 0 0) && (decide (48 ≤ (r).getD 0 0) && decide ((r).getD 0 0 ≤ 57)))))) = _
                rw [hx0, hy0]
                simp [f3, f1, f2, f5]
              have HD := Lib.hid hd
              clear hd f3 f1 f2 hx0 hy0
              go_quiet (fail)
              go_wp2_with fail
              go_ret
              exact boolGr (HGG.out.trans (grown_drewN _ _ _)) (by rw [HDB.out, HD.out])
          · have hd : digM (Rc.mk kind set by_ r wt l) = false := by
              show (decide (kind = 3) && (decide ((r).length = 1) && (decide ((wt).length = 1) && (decide ((r).getD 0 0 = (wt).getD 0 0) && (decide (48 ≤ (r).getD 0 0) && decide ((r).getD 0 0 ≤ 57)))))) = _
              rw [hx0, hy0]
              simp [f3, f1, f2, f4]
            have HD := Lib.hid hd
            have b4 : (x == y) = false := by simpa using f4
            clear hd f3 f1 f2 hx0 hy0 f4
            go_quiet (fail)
            go_wp2_with fail
            go_ret
            exact boolGr (HGG.out.trans (grown_drewN _ _ _)) (by rw [HDB.out, HD.out])
        · have hd : digM (Rc.mk kind set by_ r wt l) = false := by
            show (decide (kind = 3) && (decide ((r).length = 1) && (decide ((wt).length = 1) && (decide ((r).getD 0 0 = (wt).getD 0 0) && (decide (48 ≤ (r).getD 0 0) && decide ((r).getD 0 0 ≤ 57)))))) = _
            simp [f2]
          have HD := Lib.hid hd
          have b1 : (((r).length : Int) == 1) = true := by simp [f1]
          have b2 : (((wt).length : Int) == 1) = false := by simp; omega
          have b3 : (kind == 3) = true := by simp [f3]
          clear hd f3 f1 f2
          go_quiet (fail)
          go_wp2_with fail
          go_ret
          exact boolGr (HGG.out.trans (grown_drewN _ _ _)) (by rw [HDB.out, HD.out])
      · have hd : digM (Rc.mk kind set by_ r wt l) = false := by
          show (decide (kind = 3) && (decide ((r).length = 1) && (decide ((wt).length = 1) && (decide ((r).getD 0 0 = (wt).getD 0 0) && (decide (48 ≤ (r).getD 0 0) && decide ((r).getD 0 0 ≤ 57)))))) = _
          simp [f1]
        have HD := Lib.hid hd
        have b1 : (((r).length : Int) == 1) = false := by simp; omega
        have b3 : (kind == 3) = true := by simp [f3]
        clear hd f3 f1
        go_quiet (fail)
        go_wp2_with fail
        go_ret
        exact boolGr (HGG.out.trans (grown_drewN _ _ _)) (by rw [HDB.out, HD.out])
    · have hd : digM (Rc.mk kind set by_ r wt l) = false := by
        show (decide (kind = 3) && (decide ((r).length = 1) && (decide ((wt).length = 1) && (decide ((r).getD 0 0 = (wt).getD 0 0) && (decide (48 ≤ (r).getD 0 0) && decide ((r).getD 0 0 ≤ 57)))))) = _
        simp [f3]
      have HD := Lib.hid hd
      have b3 : (kind == 3) = false := by simpa using f3
      clear hd f3
      go_quiet (fail)
      go_wp2_with fail
      go_ret
      exact boolGr (HGG.out.trans (grown_drewN _ _ _)) (by rw [HDB.out, HD.out])
end Go.Proofs.YtocfmjiollafaaaGreatDoor
