import Derived.Test.YtocfmjiollafaaaGreatDoorWnd
import Derived.Test.YtocfmjiollafaaaGreatDoorWord
namespace Go.Proofs.YtocfmjiollafaaaGreatDoor
open Go.RowKit
set_option linter.unusedVariables false
set_option linter.unusedSimpArgs false
mutual
/-- is a node right, is it null: beneath so many -/
def rgt (co : Rc → Bool) : Rc → Nat → Bool × Bool
  | .mk k s b r w l, d => if 64 < d then (false, false) else if k = 1 ∨ k = 2 then (co (.mk k s b r w l), false) else if k = 3 then (fitsM 2 r && fitsM 2 w, r.length == 0)
    else if k = 4 ∨ k = 5 ∨ k = 6 then
      match rgtL co l (d + 1) true false with
      | none => (false, false)
      | some (a, o) => if k = 4 then (true, a) else if k = 5 then (true, o) else (!a, !a)
    else (false, false)
def rgtL (co : Rc → Bool) : List Rc → Nat → Bool → Bool → Option (Bool × Bool)
  | [], _, a, o => some (a, o)
  | x :: l, d, a, o => if (rgt co x d).1 then rgtL co l d (a && (rgt co x d).2) (o || (rgt co x d).2) else none
end
mutual
def clsN (G : Rc → Prop) : Rc → Prop
  | .mk k s b r w l => (k = 1 ∨ k = 2 → G (.mk k s b r w l)) ∧ clsL G l
def clsL (G : Rc → Prop) : List Rc → Prop
  | [] => True
  | x :: l => clsN G x ∧ clsL G l
end
theorem clsL_mem {G : Rc → Prop} : ∀ {l : List Rc}, clsL G l → ∀ x ∈ l, clsN G x
  | [], _, x, hx => by simp at hx
  | y :: l, h, x, hx => by
    rw [clsL] at h
    rcases List.mem_cons.1 hx with rfl | hx
    · exact h.1
    · exact clsL_mem h.2 x hx
theorem len0 (n : Nat) : ((n : Int) == 0) = (n == 0) := by rw [Bool.eq_iff_iff]; simp
def Bool2 (w : World) (p : Bool × Bool) (e : Ending) (w' : World) : Prop := e = .returned (.tuple #[.bool p.1, .bool p.2]) ∧ w.grownBy w' none
theorem bool2 {w w' : World} {a b : Bool} {p : Bool × Bool} (hg : w.grownBy w' none) (h : p = (a, b)) : Bool2 w p (.returned (.tuple #[.bool a, .bool b])) w' := ⟨by rw [h], hg⟩
def RgtC (co : Rc → Bool) (n : Rc) (d : Nat) : Prop := ∀ (N : Nat → Prop) u w, (∀ k, N k → k < w.heap.size) → RcV N n u w → Calls Tryz.prog 31 #[u, .int .i64 (d : Int)] w (Bool2 w (rgt co n d))
set_option maxRecDepth 100000 in
set_option maxHeartbeats 4000000 in
theorem right_step {co : Rc → Bool} (k : Int) (s : List Sp) (b : Int) (r wt : List Int) (l : List Rc) (d : Nat) (hd : d ≤ 65) (hc : k = 1 ∨ k = 2 → d ≤ 64 → RgtC co (.mk k s b r wt l) d) (HN : ∀ x ∈ l, d ≤ 64 → RgtC co x (d + 1)) : RgtC co (.mk k s b r wt l) d := by
  intro N u w hNw hu
  by_cases h64 : 64 < d
  · have hr : rgt co (.mk k s b r wt l) d = (false, false) := by rw [rgt, if_pos h64]
    have HR := Lib.hid hr
    obtain ⟨A1, c1, A3, c3, A4, c4, A5, c5, rfl, hk, hb, h1, h3, h4, h5⟩ := hu.cells
    have b64 : (64 : Int) < (d : Int) := by omega
    clear hr h1 h3 h4 h5 hu h64 HN hc
    go_enter Tryz.func31, Tryz.ntmps31
    go_wp2
    go_ret2
    exact bool2 (World.grownBy_alloc _ _ _) HR.out
  by_cases e12 : k = 1 ∨ k = 2
  · exact hc e12 (by omega) N u w hNw hu
  obtain ⟨A1, c1, A3, c3, A4, c4, A5, c5, rfl, hk, hb, h1, h3, h4, h5⟩ := hu.cells
  have b64 : ¬ (64 : Int) < (d : Int) := by omega
  have b1 : (k == 1) = false := by simp; omega
  have b2 : (k == 2) = false := by simp; omega
  obtain ⟨W, hW, hb2, hgW, hWs⟩ := one_new w (.cells #[.int .i64 k, .slice A1 s.length c1, .int .i64 b, .slice A3 r.length c3, .slice A4 wt.length c4, .slice A5 l.length c5] 26)
  have hNW : ∀ k, N k → N k ∧ W.heap[k]? = w.heap[k]? := fun k hk => ⟨hk, hgW.block k (hNw k hk) (by simp)⟩
  have C3 := Lib.hid (h3.2.step hNW); have C4 := Lib.hid (h4.2.step hNW); have C5 := Lib.hid (h5.2.step hNW)
  have hl3 := h3.1; have hl4 := h4.1; have hl5 := h5.1
  have hlen : l.length ≤ 140737488355328 := h5.2.1
  have k0 := cells_at hb2 0; have k3 := cells_at hb2 3; have k4 := cells_at hb2 4; have k5 := cells_at hb2 5
  simp at k0 k3 k4 k5
  have B2 := Lib.hid hb2; have HNW := Lib.hid hNw; have HW := Lib.hid hW
  by_cases e3 : k = 3
  · have hr : rgt co (.mk k s b r wt l) d = (fitsM 2 r && fitsM 2 wt, r.length == 0) := by rw [rgt, if_neg h64, if_neg e12, if_pos e3]
    have HR := Lib.hid hr
    subst e3
    clear hr h1 h3 h4 h5 hu h64 HN hc e12 hb2 hNW hW hNw b1 b2
    have hf1 : ∀ n, Calls Tryz.prog 32 #[.int .i64 2, .slice A3 r.length c3] (W.drewN n) (fun e w' => e = .returned (.bool (fitsM 2 r)) ∧ w' = W.drewN n) := fun n => (Fits_any 2 r A3 c3 N (W.drewN n) C3.out).mono fun _ _ h => ⟨h.1, h.2.symm⟩
    have hf2 : ∀ n, Calls Tryz.prog 32 #[.int .i64 2, .slice A4 wt.length c4] (W.drewN n) (fun e w' => e = .returned (.bool (fitsM 2 wt)) ∧ w' = W.drewN n) := fun n => (Fits_any 2 wt A4 c4 N (W.drewN n) C4.out).mono fun _ _ h => ⟨h.1, h.2.symm⟩
    have HF1 := Lib.hid hf1; have HF2 := Lib.hid hf2
    have hrl : r.length ≤ 140737488355328 := C3.out.1
    clear hf1 hf2
    cases hfr : fitsM 2 r with
    | true =>
      rw [hfr] at HF1 HR
      clear hfr
      go_enter Tryz.func31, Tryz.ntmps31
      go_wp2_with fail
      rw [HW.out]
      go_quiet ((first | (go_at_call 32; with_reducible exact Calls.quiet_of_same (HF1.out _)) | (go_at_call 32; with_reducible exact Calls.quiet_of_same (HF2.out _))))
      go_wp2_with fail
      go_ret2
      exact bool2 (hgW.trans (grown_drewN _ _ _)) (by rw [HR.out, len0]; simp)
    | false =>
      rw [hfr] at HF1 HR
      clear hfr
      go_enter Tryz.func31, Tryz.ntmps31
      go_wp2_with fail
      rw [HW.out]
      go_quiet ((go_at_call 32; with_reducible exact Calls.quiet_of_same (HF1.out _)))
      go_wp2_with fail
      go_ret2
      exact bool2 (hgW.trans (grown_drewN _ _ _)) (by rw [HR.out, len0]; simp)
  by_cases e456 : k = 4 ∨ k = 5 ∨ k = 6
  · have hr : rgt co (.mk k s b r wt l) d = (match rgtL co l (d + 1) true false with
      | none => (false, false)
      | some (a, o) => if k = 4 then (true, a) else if k = 5 then (true, o) else (!a, !a)) := by rw [rgt, if_neg h64, if_neg e12, if_neg e3, if_pos e456]
    have HR := Lib.hid hr; have HNN := Lib.hid HN
    have hd64 : d ≤ 64 := by omega
    clear hr h1 h3 h4 h5 hu h64 HN hc e12 e3 hb2 hNW hW hNw b1 b2
    rcases e456 with rfl | rfl | rfl
    all_goals
      go_enter Tryz.func31, Tryz.ntmps31
      go_wp2_with fail
      rw [HW.out]
      go_loopw [67, 7, 8] (fun i ta to_ ww => ∃ (k : Nat) (a o : Bool), k ≤ l.length ∧ i = .int .i64 k ∧ ta = .bool a ∧ to_ = .bool o ∧ W.grownBy ww none ∧ Hid (rgtL co (l.drop k) (d + 1) a o = rgtL co l (d + 1) true false)) (fun i _ _ _ => l.length - (intOf i).toNat)
      case atStart => exact ⟨0, true, false, Nat.zero_le _, rfl, rfl, rfl, World.grownBy.refl _ _, rfl⟩
      case round =>
        obtain ⟨k, a, o, hk', rfl, rfl, rfl, hg, hL⟩ := hrel
        by_cases hlt : k < l.length
        · obtain ⟨b', o', x, kd', set', B1, d1, by', r', B3, d3, wt', B4, d4, xl', B5, d5, rfl, hnb', hd', hmem, hxe, hV, z0, z1, z2, z3, z4, z5⟩ := (C5.out.step (ok' := N) (fun j hj => ⟨hj, hg.block j (by have := HNW.out j hj; omega) (by simp)⟩)).rce k hlt
          obtain ⟨W1, hW1, hbW, hgW1, hWs1⟩ := one_new wr (.cells #[.int .i64 kd', .slice B1 set'.length d1, .int .i64 by', .slice B3 r'.length d3, .slice B4 wt'.length d4, .slice B5 xl'.length d5] 26)
          have hsz := hg.size
          have hcx := HNN.out x hmem hd64 N _ W1 (fun j hj => by have := HNW.out j hj; omega) (by rw [hxe]; exact RcV.stp (fun j hj => ⟨hj, hgW1.block j (by have := HNW.out j hj; omega) (by simp)⟩) hV)
          rw [show (((d + 1 : Nat)) : Int) = (d : Int) + 1 by omega] at hcx
          have HCX := Lib.hid hcx
          have HD := Lib.hid hd'
          have HW1 := Lib.hid hW1
          obtain ⟨p1, p2, hp⟩ : ∃ p1 p2, rgt co x (d + 1) = (p1, p2) := ⟨_, _, rfl⟩
          have HP := Lib.hid hp
          clear hcx hd' hmem hxe hV hbW hp hW1 k0 k3 k4 k5
          go_wp2_with fail
          rw [HW1.out]
          refine HCX.out.mono ?_
          rw [HP.out]
          rintro e w5 ⟨rfl, hg5⟩
          cases p1 with
          | false =>
            have hf : rgtL co l (d + 1) true false = none := by rw [← hL.out, HD.out, rgtL, HP.out]; rfl
            have HF := Lib.hid hf
            clear hf
            go_wp2_with fail
            go_ret2
            exact bool2 (hgW.trans (hg.trans (hgW1.trans hg5))) (by rw [HR.out, HF.out])
          | true =>
            have hf : rgtL co (l.drop (k + 1)) (d + 1) (a && p2) (o || p2) = rgtL co l (d + 1) true false := by rw [← hL.out, HD.out, rgtL, HP.out]; rfl
            have HF := Lib.hid hf
            clear hf
            cases a <;> cases o <;> cases p2
            all_goals
              go_wp2_with fail
              go_roundw
              case rel => exact ⟨k + 1, _, _, by omega, by go_num, rfl, rfl, hg.trans (hgW1.trans hg5), HF.out⟩
              case measure => simp [intOf]; omega
        · obtain rfl : k = l.length := by omega
          have hf : rgtL co l (d + 1) true false = some (a, o) := by rw [← hL.out, List.drop_length, rgtL]
          have HF := Lib.hid hf
          have hbx := (hg.block w.heap.size (by omega) (by simp)).trans B2.out
          have y0 := cells_at hbx 0
          simp at y0
          clear hf hbx k0 k3 k4 k5
          go_wp2_with fail
          go_ret2
          exact bool2 (hgW.trans hg) (by rw [HR.out, HF.out]; rfl)
  · have hr : rgt co (.mk k s b r wt l) d = (false, false) := by rw [rgt, if_neg h64, if_neg e12, if_neg e3, if_neg e456]
    have HR := Lib.hid hr
    have b3 : (k == 3) = false := by simp; omega
    have b4 : (k == 4) = false := by simp; omega
    have b5 : (k == 5) = false := by simp; omega
    have b6 : (k == 6) = false := by simp; omega
    clear hr h1 h3 h4 h5 hu h64 HN hc e12 e3 hb2 hNW hNw e456 hW
    go_enter Tryz.func31, Tryz.ntmps31
    go_upto_region 3 with (fail)
    rw [HW.out]
    go_wp2
    go_ret2
    exact bool2 hgW HR.out
theorem right_any {co : Rc → Bool} {G : Rc → Prop} (HC : ∀ n, G n → (n.kind = 1 ∨ n.kind = 2) → ∀ d, d ≤ 64 → RgtC co n d) : ∀ (m : Nat) (n : Rc) (d : Nat), SizeOf.sizeOf n ≤ m → clsN G n → d ≤ 65 → RgtC co n d
  | 0, n, d, hm, _, _ => by cases n; simp at hm
  | m + 1, n, d, hm, hok, hd => by
    obtain ⟨k, s, b, r, wt, l⟩ := n
    rw [clsN] at hok
    refine right_step k s b r wt l d hd (fun hk h64 => HC _ (hok.1 hk) hk d h64) fun x hx h64 => ?_
    have hlt := List.sizeOf_lt_of_mem hx
    simp at hm
    exact right_any HC m x (d + 1) (by omega) (clsL_mem hok.2 x hx) (by omega)
set_option maxHeartbeats 400000 in
theorem Right_any {co : Rc → Bool} {n : Rc} (h : RgtC co n 0) {N : Nat → Prop} {u : Value} {w : World} (hN : ∀ k, N k → k < w.heap.size) (hu : RcV N n u w) :
    Calls Tryz.prog 15 #[u] w (BoolGr w (rgt co n 0).1) := by
  obtain ⟨kd, set, by_, r, wt, l⟩ := n
  obtain ⟨A1, c1, A3, c3, A4, c4, A5, c5, rfl, hk, hb, h1, h3, h4, h5⟩ := hu.cells
  obtain ⟨W, hW, hb2, hgW, hWs⟩ := one_new w (.cells #[.int .i64 kd, .slice A1 set.length c1, .int .i64 by_, .slice A3 r.length c3, .slice A4 wt.length c4, .slice A5 l.length c5] 26)
  have hc := h N _ W (fun k hk => by have := hN k hk; omega) (RcV.stp (fun k hk => ⟨hk, hgW.block k (hN k hk) (by simp)⟩) hu)
  rw [show (((0 : Nat)) : Int) = 0 from rfl] at hc
  have HC := Lib.hid hc; have HW := Lib.hid hW
  clear hc hu h1 h3 h4 h5 hb2 h hN hW
  go_enter Tryz.func15, Tryz.ntmps15
  go_wp2_with fail
  rw [HW.out]
  refine HC.out.mono ?_
  rintro e w' ⟨rfl, hg⟩
  go_wp2_with fail
  go_ret
  exact ⟨rfl, hgW.trans hg⟩
end Go.Proofs.YtocfmjiollafaaaGreatDoor
