import Derived.Test.YtocfmjiollafaaaGreatDoorRgt
namespace Go.Proofs.YtocfmjiollafaaaGreatDoor
open Go.RowKit
set_option linter.unusedVariables false
set_option linter.unusedSimpArgs false
theorem conv_str {w : World} {ok : Nat → Prop} {A : Option Addr} {ws : List Int} (c : Nat) (h : kRune.C w ok A ws) : (convert 23 9 (.slice A ws.length c)).run Tryz.prog w = .ok (.string (runesBytes ws)) w := by
  cases A with
  | none =>
    rcases h.2 with rfl | ⟨b, o, hA, _⟩
    · exact run_convert_runes_nil (P := Tryz.prog) w 23 9 21 _ c Tryz.underlying23 Tryz.underlying21 Tryz.underlying9
    · cases hA
  | some a =>
    have := run_convert_runes (P := Tryz.prog) w 23 9 21 a ws.length c ws (Nat.le_refl _) Tryz.underlying23 Tryz.underlying21 Tryz.underlying9 (fun j hj => by
      obtain ⟨b, o, x, hA, _, hx, _, hg, _⟩ := h.rune j hj
      cases hA
      rw [add_plain2, hx, List.getD_eq_getElem?_getD, hg]; rfl)
    rwa [List.take_length] at this
set_option maxRecDepth 100000 in
set_option maxHeartbeats 1000000 in
theorem Print_ok {co : Rc → Bool} {G : Rc → Prop} (HCl : ∀ wb, ClsC wb G) {n : Rc} (hR : RgtC co n 0) (hok : okN G n) (hr : (rgt co n 0).1 = true) (hl : (txt n 0).length ≤ 65536) {N : Nat → Prop} {u : Value} {w : World} (hT : Tabs w) (hN : ∀ k, N k → k < w.heap.size) (hu : RcV N n u w) :
    Calls Tryz.prog 9 #[u] w (fun e w' => e = .returned (.tuple #[.string (runesBytes (txt n 0)), .int .i64 0]) ∧ w.grownBy w' none) := by
  obtain ⟨m, hm⟩ : ∃ m, n = m := ⟨n, rfl⟩
  obtain ⟨kd, set, by_, r, wt, l⟩ := n
  obtain ⟨A1, c1, A3, c3, A4, c4, A5, c5, rfl, hk, hb, h1, h3, h4, h5⟩ := hu.cells
  rw [hm] at hR hok hr hl hu ⊢
  obtain ⟨W, hW, hb2, hgW, hWs⟩ := one_new w (.cells #[.int .i64 kd, .slice A1 set.length c1, .int .i64 by_, .slice A3 r.length c3, .slice A4 wt.length c4, .slice A5 l.length c5] 26)
  have hNW : ∀ k, N k → k < W.heap.size := fun k hk => by have := hN k hk; omega
  have hUW := RcV.stp (w' := W) (N' := N) (fun k hk => ⟨hk, hgW.block k (hN k hk) (by simp)⟩) hu
  have hrt := Right_any hR hNW hUW
  rw [hr] at hrt
  have HRT := Lib.hid hrt; have HUW := Lib.hid hUW; have HTW := Lib.hid (hT.kept hgW); have HNW := Lib.hid hNW; have HN := Lib.hid hN
  have k0 := cells_at hb2 0; have k1 := cells_at hb2 1; have k2 := cells_at hb2 2; have k3 := cells_at hb2 3; have k4 := cells_at hb2 4; have k5 := cells_at hb2 5
  simp at k0 k1 k2 k3 k4 k5
  have B2 := Lib.hid hb2
  have HCC := Lib.hid HCl; have HOK := Lib.hid hok
  have h3 := tz_lt hT.tz
  clear hrt hUW hT hNW hN hu h1 h4 h5 hb2 hR hr HCl hok hm
  go_enter Tryz.func9, Tryz.ntmps9
  go_wp2_with fail
  refine HRT.out.mono ?_
  rintro e w1 ⟨rfl, hg1⟩
  have hs1 := hg1.size
  obtain ⟨W2, hW2, hbw, hgW2, hWs2⟩ := one_new w1 (.cells #[.slice none 0 0] 47)
  have hg2 := hg1.trans hgW2
  have hWS : WS w1.heap.size [] (.slice none 0 0) W2 := ⟨⟨hbw, Kd.Own.nil _ _ _ _ _⟩, by omega, HTW.out.kept hg2⟩
  have hbx := (hg2.block w.heap.size (by omega) (by simp)).trans B2.out
  have q0 := cells_at hbx 0; have q1 := cells_at hbx 1; have q2 := cells_at hbx 2; have q3 := cells_at hbx 3; have q4 := cells_at hbx 4; have q5 := cells_at hbx 5
  simp at q0 q1 q2 q3 q4 q5
  have hnd := node_any (HCC.out w1.heap.size) (SizeOf.sizeOf m) m 0 (Nat.le_refl _) HOK.out (by decide) [] (.slice none 0 0) W2 _ hWS (RcV.stp (fun k hk => ⟨⟨by have := HN.out k hk; omega, by have := HN.out k hk; omega, by simp [Value.ownBlock]⟩, hg2.block k (HNW.out k hk) (by simp)⟩) HUW.out) (by simpa using hl)
  have HND := Lib.hid hnd
  clear hnd hbx k0 k1 k2 k3 k4 k5 hbw hWS
  go_wp2_with fail
  refine HND.out.mono ?_
  rintro e w5 ⟨v5, rfl, hw5, hgo5⟩
  obtain ⟨A, c, rfl, hc, hC⟩ := hw5.wr.2.reads (by unfold maxN; simp; omega)
  have hcl := cells_at hw5.wr.1 0
  simp at hcl
  simp only [List.nil_append] at hcl hC hc
  have hcv := conv_str c hC
  have hg5 : w.grownBy w5 none := by
    have hgw := hgW.trans hg2
    refine ⟨hgo5.os.trans hgw.os, hgo5.tape.trans hgw.tape, hgo5.output.trans hgw.output, Nat.le_trans hgw.size hgo5.size, fun k hk _ => ?_⟩
    rw [hgo5.block k (by omega) (by omega) (by simp [Value.ownBlock]), hgw.block k hk (by simp)]
  have HG5 := Lib.hid hg5
  clear hw5 hgo5 hC hc q0 q1 q2 q3 q4 q5 hg5 hW hW2
  go_wp2_with fail
  go_ret2
  exact ⟨rfl, HG5.out⟩
end Go.Proofs.YtocfmjiollafaaaGreatDoor
