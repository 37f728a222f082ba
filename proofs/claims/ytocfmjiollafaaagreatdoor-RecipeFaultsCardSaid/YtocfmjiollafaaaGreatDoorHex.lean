import Derived.Test.YtocfmjiollafaaaGreatDoorProg
import Derived.Test.YtocfmjiollafaaaGreatDoorMir
import Derived.Deep.QuietTactic
import Derived.BigQuiet
import Derived.Lib.ConvBytes
import Derived.Deep.LoopGhost
namespace Go.Proofs.YtocfmjiollafaaaGreatDoor
open Go.RowKit
set_option linter.unusedVariables false
set_option linter.unusedSimpArgs false
set_option maxHeartbeats 400000 in
theorem lower_any (c : Int) (w : World) : Calls Tryz.prog 129 #[.int .u8 c] w fun e w' => e = .returned (.int .u8 (bits BinOp.or IntKind.u8 c 32)) ∧ w = w' := by
  go_enter Tryz.func129, Tryz.ntmps129
  go_wp2
  go_ret
  exact ⟨rfl, rfl⟩
theorem low_az : ∀ c : Int, 97 ≤ c ∧ c ≤ 102 → bits BinOp.or IntKind.u8 c 32 = c := by
  intro c h
  have : c = 97 ∨ c = 98 ∨ c = 99 ∨ c = 100 ∨ c = 101 ∨ c = 102 := by omega
  rcases this with rfl | rfl | rfl | rfl | rfl | rfl <;> decide
theorem low_AZ : ∀ c : Int, 65 ≤ c ∧ c ≤ 70 → bits BinOp.or IntKind.u8 c 32 = c + 32 := by
  intro c h
  have : c = 65 ∨ c = 66 ∨ c = 67 ∨ c = 68 ∨ c = 69 ∨ c = 70 := by omega
  rcases this with rfl | rfl | rfl | rfl | rfl | rfl <;> decide
set_option maxHeartbeats 400000 in
theorem lower_at (c d : Int) (w : World) (h : (97 ≤ c ∧ c ≤ 102 ∧ d = c) ∨ (65 ≤ c ∧ c ≤ 70 ∧ d = c + 32)) : Calls Tryz.prog 129 #[.int .u8 c] w fun e w' => e = .returned (.int .u8 d) ∧ w = w' := by
  rcases h with ⟨h1, h2, rfl⟩ | ⟨h1, h2, rfl⟩
  · have := lower_any d w; rwa [low_az d ⟨h1, h2⟩] at this
  · have := lower_any c w; rwa [low_AZ c ⟨h1, h2⟩] at this
theorem pow_le (k : Nat) (h : k ≤ 5) : (16 : Int) ^ k ≤ 1048576 := by
  have : k = 0 ∨ k = 1 ∨ k = 2 ∨ k = 3 ∨ k = 4 ∨ k = 5 := by omega
  rcases this with rfl | rfl | rfl | rfl | rfl | rfl <;> decide
theorem hexV_range : ∀ (L : List Int) (n : Int) (k : Nat), (∀ x ∈ L, IsHexB x) → 0 ≤ n → n < 16 ^ k → 0 ≤ hexV n L ∧ hexV n L < 16 ^ (k + L.length)
  | [], n, k, _, h0, h1 => ⟨h0, by simpa [hexV] using h1⟩
  | x :: L, n, k, h, h0, h1 => by
    have hd := hexD_range x (h x (by simp))
    have hp : (16 : Int) ^ (k + 1) = 16 ^ k * 16 := Int.pow_succ ..
    have := hexV_range L (16 * n + hexD x) (k + 1) (fun y hy => h y (by simp [hy])) (by omega) (by omega)
    rw [hexV, List.length_cons, show k + (L.length + 1) = k + 1 + L.length by omega]
    exact this
theorem hex_step {L : List Int} {k : Nat} {v x z : Int} (hk : k < L.length) (hL : L.getD k 0 = x) (hx : IsHexB x) (hv0 : 0 ≤ v) (hz : z = 16 * v + hexD x) (HV : v < 16 ^ k ∧ hexV v (L.drop k) = hexV 0 L) :
    z < 16 ^ (k + 1) ∧ hexV z (L.drop (k + 1)) = hexV 0 L := by
  obtain ⟨h1, h2⟩ := HV
  have hd := hexD_range x hx
  have hx' : L[k] = x := by rw [← hL]; simp [List.getD_eq_getElem?_getD, List.getElem?_eq_getElem hk]
  rw [List.drop_eq_getElem_cons hk, hx'] at h2
  subst hz
  refine ⟨?_, h2⟩
  rw [Int.pow_succ]
  omega
def HexPost (w : World) (l : List Int) (e : Ending) (w' : World) : Prop := e = .returned (.tuple #[.int .u64 (hexV 0 l), .nilIface]) ∧ w.grownBy w' none
set_option maxRecDepth 100000 in
set_option maxHeartbeats 1000000 in
theorem parseHex_in (s : ByteArray) (w : World) (h0 : 0 < s.size) (h1 : s.size ≤ 6) (hh : ∀ b ∈ s.data.toList, IsHexB b.toNat) :
    Calls Tryz.prog 126 #[.string s, .int .i64 16, .int .i64 32] w (HexPost w (s.data.toList.map fun b => (b.toNat : Int))) := by
  have HH := Lib.hid hh; clear hh
  have hne2 : s.toList.isEmpty = false := by
    rw [List.isEmpty_eq_false_iff]
    intro h
    rw [ByteArray.toList_eq] at h
    have hl : s.data.toList.length = s.size := by cases s; rfl
    rw [h] at hl
    simp at hl
    omega
  have kc : ∀ W : World, (convert 9 66 (.string s)).run Tryz.prog W = .ok (.slice (some ⟨W.heap.size, 0, none⟩) s.size (grownCap W s.size 0 5)) (Lib.bytesWorld W 5 s) :=
    fun W => Lib.run_convert_string_bytes W 9 66 5 s Tryz.underlying9 Tryz.underlying66 Tryz.underlying5
  go_enter Tryz.func126, Tryz.ntmps126
  go_wp2
  clear kc
  go_loop [12, 13, 101] (fun un n i => un = .bool false ∧ ∃ k : Nat, ∃ v : Int, k ≤ s.size ∧ i = .int .i64 k ∧ n = .int .u64 v ∧ 0 ≤ v ∧ v ≤ 16777215 ∧ Hid (v < 16 ^ k ∧ hexV v ((s.data.toList.map fun b => (b.toNat : Int)).drop k) = hexV 0 (s.data.toList.map fun b => (b.toNat : Int)))) (fun _ _ i => s.size - (intOf i).toNat)
  case atStart => exact ⟨rfl, 0, 0, by omega, rfl, rfl, by omega, by omega, by simp, rfl⟩
  case round =>
    obtain ⟨rfl, k, v, hk, rfl, rfl, hv0, hv1, HV⟩ := hrel
    by_cases hlt : k < s.size
    · have hc := Lib.bytesWorld_cell w 5 s k hlt
      obtain ⟨c, hcc⟩ : ∃ c : UInt8, s.data.toList.getD k 0 = c := ⟨_, rfl⟩
      rw [hcc] at hc
      obtain ⟨x, hx⟩ : ∃ x : Int, (c.toNat : Int) = x := ⟨_, rfl⟩
      rw [hx] at hc
      have hX : IsHexB x := by
        rw [← hx]
        refine HH.out c ?_
        rw [← hcc, List.getD_eq_getElem?_getD, List.getElem?_eq_getElem (by simpa using hlt)]
        simp
      have hv2 : v ≤ 1048575 := by
        have := pow_le k (by omega)
        have := HV.out.1
        omega
      have HX := Lib.hid hX
      have HL : Hid (k < (s.data.toList.map fun b => (b.toNat : Int)).length ∧ (s.data.toList.map fun b => (b.toNat : Int)).getD k 0 = x) := by
        refine ⟨by simpa using hlt, ?_⟩
        rw [← hx, ← hcc]
        simp [List.getD_eq_getElem?_getD, hlt]
      clear hcc hx
      rcases hX with hX | hX | hX
      · obtain ⟨hx1, hx2⟩ := hX
        go_wp2
        go_round
        case rel => exact ⟨rfl, k + 1, _, by omega, by go_num, rfl, by omega, by omega, hex_step HL.out.1 HL.out.2 HX.out hv0 (by unfold hexD; (first | rw [if_pos (by omega)] | (rw [if_neg (by omega), if_pos (by omega)]) | (rw [if_neg (by omega), if_neg (by omega)])); omega) HV.out⟩
        case measure => simp [intOf]; omega
      · obtain ⟨hx1, hx2⟩ := hX
        go_wp2_with (go_at_call 129; refine (lower_at x (x + 32) _ (.inr ⟨hx1, hx2, rfl⟩)).mono ?_; rintro e w' ⟨rfl, rfl⟩)
        go_round
        case rel => exact ⟨rfl, k + 1, _, by omega, by go_num, rfl, by omega, by omega, hex_step HL.out.1 HL.out.2 HX.out hv0 (by unfold hexD; (first | rw [if_pos (by omega)] | (rw [if_neg (by omega), if_pos (by omega)]) | (rw [if_neg (by omega), if_neg (by omega)])); omega) HV.out⟩
        case measure => simp [intOf]; omega
      · obtain ⟨hx1, hx2⟩ := hX
        go_wp2_with (go_at_call 129; refine (lower_at x x _ (.inl ⟨hx1, hx2, rfl⟩)).mono ?_; rintro e w' ⟨rfl, rfl⟩)
        go_round
        case rel => exact ⟨rfl, k + 1, _, by omega, by go_num, rfl, by omega, by omega, hex_step HL.out.1 HL.out.2 HX.out hv0 (by unfold hexD; (first | rw [if_pos (by omega)] | (rw [if_neg (by omega), if_pos (by omega)]) | (rw [if_neg (by omega), if_neg (by omega)])); omega) HV.out⟩
        case measure => simp [intOf]; omega
    · go_wp2
      go_ret2
      have hkk : k = s.size := by omega
      have hfin := HV.out.2
      rw [List.drop_eq_nil_of_le (by simp [hkk])] at hfin
      exact ⟨by rw [← hfin]; rfl, ⟨rfl, rfl, rfl, by rw [Lib.bytesWorld_size]; omega, fun j hj _ => Lib.bytesWorld_at_old w 5 s j hj⟩⟩
set_option maxRecDepth 100000 in
set_option maxHeartbeats 1000000 in
theorem parseHex_any (s : ByteArray) (w : World) (h0 : 0 < s.size) (h1 : s.size ≤ 6) (hh : ∀ b ∈ s.data.toList, IsHexB b.toNat) :
    Calls Tryz.prog 117 #[.string s, .int .i64 16, .int .i64 32] w (HexPost w (s.data.toList.map fun b => (b.toNat : Int))) := by
  have H := Lib.hid (parseHex_in s w h0 h1 hh)
  clear hh
  go_enter Tryz.func117, Tryz.ntmps117
  go_wp2_with (go_at_call 126; refine H.out.mono ?_; rintro e w' ⟨rfl, hg⟩)
  go_ret2
  exact ⟨rfl, hg⟩
end Go.Proofs.YtocfmjiollafaaaGreatDoor
