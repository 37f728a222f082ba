import Derived.Test.YtocfmjiollafaaaGreatDoorWru
import Derived.Test.YtocfmjiollafaaaGreatDoorWord
import Derived.Test.YtocfmjiollafaaaGreatDoorTxt
import Derived.Outline
namespace Go.Proofs.YtocfmjiollafaaaGreatDoor
open Go.RowKit
set_option linter.unusedVariables false
set_option linter.unusedSimpArgs false
theorem enc_eq {x : Int} (h : inS 2 x = true) : Lib.encodeRune x = (Utf8.encode x).data.toList := by
  have hx : 0 ≤ x ∧ x ≤ 1114111 ∧ (x < 55296 ∨ 57343 < x) := by simp [inS] at h; omega
  rw [encode_list x (inS_valid h)]
  obtain ⟨n, rfl⟩ : ∃ n : Nat, x = (n : Int) := ⟨x.toNat, by omega⟩
  have e : ((n : Int)).toNat = n := rfl
  rw [e]
  unfold Lib.encodeRune Lib.encodeRuneZ
  by_cases h1 : n < 0x80
  · rw [if_pos h1, if_pos (by omega)]; rfl
  · rw [if_neg h1, if_neg (by omega)]
    by_cases h2 : n < 0x800
    · rw [if_pos h2, if_pos (by omega)]
      have a1 : (192 + (n : Int) / 64).toNat = 192 + n / 64 := by omega
      have a2 : (128 + (n : Int) % 64).toNat = 128 + n % 64 := by omega
      simp only [List.map_cons, List.map_nil, a1, a2]
    · rw [if_neg h2, if_neg (by omega)]
      by_cases h3 : n < 0x10000
      · rw [if_pos h3, if_pos (by omega)]
        have a1 : (224 + (n : Int) / 4096).toNat = 224 + n / 4096 := by omega
        have a2 : (128 + (n : Int) / 64 % 64).toNat = 128 + n / 64 % 64 := by omega
        have a3 : (128 + (n : Int) % 64).toNat = 128 + n % 64 := by omega
        simp only [List.map_cons, List.map_nil, a1, a2, a3]
      · rw [if_neg h3, if_neg (by omega), if_pos (by omega)]
        have a1 : (240 + (n : Int) / 262144).toNat = 240 + n / 262144 := by omega
        have a2 : (128 + (n : Int) / 4096 % 64).toNat = 128 + n / 4096 % 64 := by omega
        have a3 : (128 + (n : Int) / 64 % 64).toNat = 128 + n / 64 % 64 := by omega
        have a4 : (128 + (n : Int) % 64).toNat = 128 + n % 64 := by omega
        simp only [List.map_cons, List.map_nil, a1, a2, a3, a4]
def encs (l : List Int) : List UInt8 := l.flatMap fun x => (Utf8.encode x).data.toList
theorem encs_snoc (l : List Int) (k : Nat) (x : Int) (h : l[k]? = some x) : encs (l.take (k + 1)) = encs (l.take k) ++ (Utf8.encode x).data.toList := by
  obtain ⟨hk, e⟩ := List.getElem?_eq_some_iff.1 h
  unfold encs
  rw [List.take_succ_eq_append_getElem hk, List.flatMap_append, e]; simp
theorem encs_len (l : List Int) : (encs l).length ≤ 4 * l.length := by
  induction l with
  | nil => simp [encs]
  | cons x l ih =>
    unfold encs at ih ⊢
    have h4 : (Utf8.encode x).data.toList.length ≤ 4 := by
      unfold Utf8.encode; simp only; repeat' split
      all_goals simp
    rw [List.flatMap_cons, List.length_append, List.length_cons]; omega
theorem runesBytes_mk (l : List Int) : runesBytes l = ⟨(encs l).toArray⟩ := by
  have h := runesBytes_list l
  have : (runesBytes l).data = (encs l).toArray := by
    apply Array.ext'
    rw [h]; rfl
  cases hb : runesBytes l with
  | mk d => rw [hb] at this; simp only at this; rw [this]
theorem byteCells_app (a b : List UInt8) : Lib.byteCells (a ++ b) = Lib.byteCells a ++ Lib.byteCells b := by unfold Lib.byteCells; rw [List.map_append]
set_option maxRecDepth 100000 in
set_option maxHeartbeats 1000000 in
theorem Text_ok (l : List Int) (A : Option Addr) (c : Nat) {w : World} (hf : fitsM 2 l = true) (hl : l.length ≤ 1048576) (hC : kRune.C w (live w) A l) : Calls Tryz.prog 17 #[.slice A l.length c] w (fun e w' => e = .returned (.tuple #[.string (runesBytes l), .bool true]) ∧ w.grownBy w' none) := by
  have hft := Fits_any 2 l A c (live w) w hC
  rw [hf] at hft
  have HF := Lib.hid hft; have C := Lib.hid hC; have HFF := Lib.hid hf
  obtain ⟨W, hW, hb2, hgW, hWs⟩ := one_new w (.cells #[.pointer none, .slice none 0 0] 68)
  have HW := Lib.hid hW; have B2 := Lib.hid hb2
  clear hft hC hf hW hb2
  go_enter Tryz.func17, Tryz.ntmps17
  go_wp2_with fail
  refine HF.out.mono ?_
  rintro e w1 ⟨rfl, rfl⟩
  go_wp2_with fail
  rw [HW.out]
  go_loopw [12] (fun i ww => ∃ k : Nat, k ≤ l.length ∧ i = .int .i64 k ∧ Lib.IsBuilderF 68 5 w.heap.size w.heap.size (Lib.byteCells (encs (l.take k))) ww ∧ Below w.heap.size w ww) (fun i _ => l.length - (intOf i).toNat)
  case atStart =>
    refine ⟨0, Nat.zero_le _, rfl, .inl (Lib.BuilderAtF.of ⟨Nat.le_refl _, _, B2.out, ?_, by simp [Value.ownBlock]⟩), grown_below hgW⟩
    exact World.ownsRow_nil _ _ _ _
  case round =>
    obtain ⟨k, hk, rfl, hB, hbl⟩ := hrel
    by_cases hlt : k < l.length
    · obtain ⟨b, o, x, rfl, hb, hx, hr, hg, hd⟩ := (C.out.step (ok' := live w) (fun j hj => ⟨hj, (below_grown hbl).block j hj (by simp)⟩)).rune k hlt
      have hs : inS 2 x = true := List.all_eq_true.1 HFF.out x (List.mem_of_getElem? hg)
      have hen := encs_snoc l k x hg
      have HEN := Lib.hid hen
      have hle := encs_len (l.take k)
      have hlt2 : (l.take k).length ≤ l.length := by simp; omega
      have hws := hbl.size
      have hwr := fun w2 h2 hs2 => Tryz.Builder_WriteRune w.heap.size w.heap.size (Lib.byteCells (encs (l.take k))) x hr.1 hr.2 w2 h2 (by rw [Lib.byteCells_length]; omega) hs2
      have HB := Lib.hid hB
      have hbr := hwr _ hB hws
      have HBR := Lib.hid hbr
      have HBL := Lib.hid hbl
      have hcc : Lib.byteCells (encs (l.take k)) ++ Lib.runeCells x = Lib.byteCells (encs (l.take (k + 1))) := by
        rw [hen, byteCells_app, ← Lib.byteCells_encodeRune, enc_eq hs]
      have HCC := Lib.hid hcc
      clear hg hd hen hwr hB hbr hbl hcc hs
      go_wp2_with fail
      refine HBR.out.mono ?_
      rintro e w2 ⟨rfl, hB2, hbl2, _⟩
      rw [HCC.out] at hB2
      have HB2 := Lib.hid hB2; have HL2 := Lib.hid hbl2
      clear hB2 hbl2
      go_wp2_with fail
      go_roundw
      case rel => exact ⟨k + 1, by omega, by go_num, .inr HB2.out, HBL.out.trans HL2.out⟩
      case measure => simp [intOf]; omega
    · obtain rfl : k = l.length := by omega
      rw [List.take_length] at hB
      have hst := Tryz.Builder_String_any_f w.heap.size w.heap.size (encs l) _ hB hbl.size
      have HST := Lib.hid hst; have HBL := Lib.hid hbl
      have hm := runesBytes_mk l
      have HM := Lib.hid hm
      clear hB hst hbl hm
      go_wp2_with fail
      refine HST.out.mono ?_
      rintro e w2 ⟨rfl, _, hbl2⟩
      go_wp2_with fail
      go_ret2
      rw [HM.out]
      exact ⟨rfl, below_grown (HBL.out.trans hbl2)⟩
end Go.Proofs.YtocfmjiollafaaaGreatDoor
