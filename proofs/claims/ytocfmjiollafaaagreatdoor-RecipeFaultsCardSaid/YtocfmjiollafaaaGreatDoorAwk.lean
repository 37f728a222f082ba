import Derived.Test.YtocfmjiollafaaaGreatDoorPrw
import Derived.Test.YtocfmjiollafaaaGreatDoorPrn
import Derived.Test.YtocfmjiollafaaaGreatDoorTxp
import Derived.Test.YtocfmjiollafaaaGreatDoorSam
namespace Go.Proofs.YtocfmjiollafaaaGreatDoor
open Go.RowKit
set_option linter.unusedVariables false
set_option linter.unusedSimpArgs false
def noRc : Rc → Prop := fun _ => False
theorem cls_no (wb : Nat) : ClsC wb noRc := fun n h => h.elim
theorem rgt_no (co : Rc → Bool) {n : Rc} (h : clsN noRc n) : RgtC co n 0 := right_any (G := noRc) (fun n h => h.elim) (SizeOf.sizeOf n) n 0 (Nat.le_refl _) h (by decide)
def noCo : Rc → Bool := fun _ => false
theorem awN_cls : clsN noRc awakeN := by simp [awakeN, kAlt, kMany, kCat, kPair, clsN, clsL]
theorem awN_ok : okN noRc awakeN := by simp [awakeN, kAlt, kMany, kCat, kPair, okN, okL]; decide
theorem awN_rgt : (rgt noCo awakeN 0).1 = true := by simp [awakeN, kAlt, kMany, kCat, kPair, rgt, rgtL]; decide
theorem awN_txt : txt awakeN 0 = [97, 124, 40, 98, 99, 41, 42] := by
  simp [awakeN, kAlt, kMany, kCat, kPair, txt, core, itemsT, altsT, headT, brk, bareB, pairT, Rc.kind, Rc.l]
  decide
theorem s1_runes : runesOf ⟨#[97, 124, 40, 98, 99, 41, 42]⟩ = [97, 124, 40, 98, 99, 41, 42] := by rfl
theorem s2_runes : runesOf ⟨#[40, 97]⟩ = [40, 97] := by rfl
theorem s1_bytes : runesBytes [97, 124, 40, 98, 99, 41, 42] = ⟨#[97, 124, 40, 98, 99, 41, 42]⟩ := by rfl
set_option maxRecDepth 100000 in
set_option maxHeartbeats 1000000 in
theorem awake_any {w : World} (hT : Tabs w) : Calls Tryz.prog 8 #[] w (TrueG w) := by
  have HT := Lib.hid hT
  clear hT
  go_enter Tryz.func8, Tryz.ntmps8
  go_wp2_with fail
  refine (Parse_any ⟨#[97, 124, 40, 98, 99, 41, 42]⟩ (r := .ok awakeN 7) (by decide) (by rw [s1_runes]; decide) (by rw [s1_runes]; exact awake1)).mono ?_
  rintro e w1 ⟨u, rfl, hu, hg1⟩
  obtain ⟨cs, rfl, hK⟩ := hu
  obtain ⟨A1, c1, A3, c3, A4, c4, A5, c5, hce, _, _, _, _, _, h5⟩ := kRc_iff.1 hK
  have hcs : cs = #[.int .i64 5, .slice A1 0 c1, .int .i64 0, .slice A3 0 c3, .slice A4 0 c4, .slice A5 2 c5] := by rw [show cs = ⟨cs.toList⟩ from rfl, hce]; rfl
  subst hcs
  obtain ⟨b, o, x, kd, set, B1, d1, by_, r, B3, d3, wt, B4, d4, l, B5, d5, rfl, hnb, hx, hxe, hKx, z0, z1, z2, z3, z4, z5⟩ := h5.2.rcc 1 (by decide)
  have hkd : kd = 6 := by
    have e : x = kMany [kCat [kPair [98] [98], kPair [99] [99]]] := (Option.some.inj hx).symm
    rw [hxe] at e; injection e
  subst hkd
  obtain ⟨W2, hW2, hb2, hgW2, hWs2⟩ := one_new w1 (.cells #[.int .i64 5, .slice A1 0 c1, .int .i64 0, .slice A3 0 c3, .slice A4 0 c4, .slice (some ⟨b, o, none⟩) 2 c5] 26)
  have HK := Lib.hid hK; have HW2 := Lib.hid hW2; have B2 := Lib.hid hb2
  have hbl : b < w1.heap.size := hnb.2
  have Z0 := Lib.hid z0
  clear hce h5 hx hxe hKx z0 z1 z2 z3 z4 z5 hK hW2 hb2
  go_wp2_with fail
  rw [HW2.out]
  refine (Parse_any ⟨#[40, 97]⟩ (r := .bad 2) (by decide) (by rw [s2_runes]; decide) (by rw [s2_runes]; exact awake2)).mono ?_
  rintro e w3 ⟨rfl, hg3⟩
  unfold zeroAgg
  obtain ⟨W4, hW4, hb4, hgW4, hWs4⟩ := one_new w3 (.cells #[.int .i64 0, .slice none 0 0, .int .i64 0, .slice none 0 0, .slice none 0 0, .slice none 0 0] 26)
  have hgA := hgW2.trans (hg3.trans hgW4)
  have hg24 := hg3.trans hgW4
  have hbx := (hg24.block w1.heap.size (by omega) (by simp)).trans B2.out
  have q0 := cells_at hbx 0; have q1 := cells_at hbx 1; have q2 := cells_at hbx 2; have q3 := cells_at hbx 3; have q4 := cells_at hbx 4; have q5 := cells_at hbx 5
  simp at q0 q1 q2 q3 q4 q5
  have hpr := Print_ok cls_no (rgt_no noCo awN_cls) awN_ok awN_rgt (by rw [awN_txt]; decide) (HT.out.kept (hg1.trans hgA)) (N := fresh w w1) (w := W4) (fun k hk => by have := hk.2; have := hgA.size; omega)
    (show RcV (fresh w w1) awakeN (.agg #[.int .i64 5, .slice A1 0 c1, .int .i64 0, .slice A3 0 c3, .slice A4 0 c4, .slice (some ⟨b, o, none⟩) 2 c5]) W4 from ⟨_, rfl, kRc.step (fun k hk => ⟨hk, hgA.block k hk.2 (by simp)⟩) HK.out⟩)
  rw [awN_txt, s1_bytes] at hpr
  have HPR := Lib.hid hpr
  have HW4 := Lib.hid hW4
  clear hpr hbx hb4 hW4
  go_upto_region 3 with (fail)
  rw [HW4.out]
  go_wp2_with fail
  refine HPR.out.mono ?_
  rintro e w5 ⟨rfl, hg5⟩
  have hbx := ((hg24.trans hg5).block w1.heap.size (by omega) (by simp)).trans B2.out
  have x0 := cells_at hbx 0; have x5 := cells_at hbx 5
  simp at x0 x5
  have y0 : w5.cell? ⟨b, o + 1 * 6, none⟩ = some (.int .i64 6) := by
    rw [World.cell?_of_block (w := w1) (w' := w5) ((hgA.trans hg5).block b hbl (by simp))]; exact Z0.out
  simp only [Nat.one_mul] at y0
  clear hbx q0 q1 q2 q3 q4 q5
  go_wp2_with fail
  go_ret
  exact ⟨rfl, (hg1.trans hgA).trans hg5⟩
end Go.Proofs.YtocfmjiollafaaaGreatDoor
