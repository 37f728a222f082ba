import Derived.Test.YtocfmjiollafaaaGreatDoorWr
import Derived.Test.YtocfmjiollafaaaGreatDoorFmt
import Derived.Test.YtocfmjiollafaaaGreatDoorStr
namespace Go.Proofs.YtocfmjiollafaaaGreatDoor
open Go.RowKit
set_option linter.unusedVariables false
set_option linter.unusedSimpArgs false
theorem fits_letterW (x : Int) (hx : inS 2 x = true) : fitsM 2 (letterW x) = true := by
  have h0 : 0 ≤ x := by simp [inS] at hx; omega
  unfold letterW
  by_cases h10 : x = 10
  · rw [if_pos h10]; rfl
  · rw [if_neg h10]
    by_cases h32 : x < 32 ∨ x = 127
    · rw [if_pos h32]
      have : ∀ n : Fin 128, fitsM 2 ([92, 117, 123] ++ hexS (n.val : Int) ++ [125]) = true := by decide
      have := this ⟨x.toNat, by omega⟩
      simpa only [show ((x.toNat : Nat) : Int) = x by omega] using this
    · rw [if_neg h32]
      split
      · simp only [fitsM, List.all_cons, hx]; rfl
      · simp only [fitsM, List.all_cons, hx]; rfl
/-- the string that a letter is put as -/
def letterB (x : Int) : ByteArray :=
  if x = 10 then ⟨#[92, 110]⟩ else if x < 32 ∨ x = 127 then (⟨#[92, 117, 123]⟩ : ByteArray) ++ ⟨(hexB x).toArray⟩ ++ ⟨#[125]⟩ else if isSign x then (⟨#[92]⟩ : ByteArray) ++ Utf8.encode x else Utf8.encode x
theorem enc_size (x : Int) : (Utf8.encode x).size ≤ 4 := by
  have : (Utf8.encode x).data.toList.length ≤ 4 := by
    unfold Utf8.encode; simp only; repeat' split
    all_goals simp
  simpa using this
theorem enc_small (x : Int) (h0 : 0 ≤ x) (h1 : x < 128) : (Utf8.encode x).data.toList = [x.toNat.toUInt8] := encode_ascii x h0 h1
theorem letterB_list (x : Int) (hx : inS 2 x = true) : (letterB x).data.toList = (letterW x).flatMap fun x => (Utf8.encode x).data.toList := by
  have h0 : 0 ≤ x := by simp [inS] at hx; omega
  unfold letterB letterW
  by_cases h10 : x = 10
  · rw [if_pos h10, if_pos h10]; rfl
  · rw [if_neg h10, if_neg h10]
    by_cases h32 : x < 32 ∨ x = 127
    · rw [if_pos h32, if_pos h32]
      have : ∀ n : Fin 128, ((⟨#[92, 117, 123]⟩ : ByteArray) ++ ⟨(hexB (n.val : Int)).toArray⟩ ++ ⟨#[125]⟩).data.toList = ([92, 117, 123] ++ hexS (n.val : Int) ++ [125]).flatMap fun x => (Utf8.encode x).data.toList := by
        intro n
        have hh : ∀ c ∈ hexS (n.val : Int), 0 ≤ c ∧ c < 128 := by
          have : ∀ n : Fin 128, (hexS (n.val : Int)).all (fun c => decide (0 ≤ c ∧ c < 128)) = true := by decide
          intro c hc
          have := List.all_eq_true.1 (this n) c hc
          simpa using this
        have e : (hexS (n.val : Int)).flatMap (fun x => (Utf8.encode x).data.toList) = hexB (n.val : Int) := by
          unfold hexB
          generalize hexS (n.val : Int) = l at hh
          induction l with
          | nil => rfl
          | cons c l ih =>
            have := hh c (by simp)
            rw [List.flatMap_cons, enc_small c this.1 this.2, ih (fun c hc => hh c (by simp [hc]))]; rfl
        rw [List.flatMap_append, List.flatMap_append, e]
        simp
        exact rfl
      have := this ⟨x.toNat, by omega⟩
      simpa only [show ((x.toNat : Nat) : Int) = x by omega] using this
    · rw [if_neg h32, if_neg h32]
      split
      · rw [List.flatMap_cons, List.flatMap_cons, List.flatMap_nil, List.append_nil]
        simp
        rfl
      · simp
theorem runesOf_letterB (x : Int) (hx : inS 2 x = true) : runesOf (letterB x) = letterW x := runesOf_back _ (fits_letterW x hx) _ (letterB_list x hx)
theorem letterB_size (x : Int) (hx : inS 2 x = true) : (letterB x).size ≤ 24 := by
  have h := congrArg List.length (letterB_list x hx)
  have h6 := (letterW_len x).2
  have : ∀ l : List Int, (l.flatMap fun x => (Utf8.encode x).data.toList).length ≤ 4 * l.length := by
    intro l
    induction l with
    | nil => simp
    | cons c l ih =>
      rw [List.flatMap_cons, List.length_append, List.length_cons]
      have : (Utf8.encode c).data.toList.length ≤ 4 := by
        unfold Utf8.encode; simp only; repeat' split
        all_goals simp
      omega
  have := this (letterW x)
  have hs : (letterB x).size = (letterB x).data.toList.length := by simp
  omega
set_option maxHeartbeats 400000 in
theorem letterW_any {wb : Nat} {ws : List Int} {v : Value} {w : World} (x : Int) (hx : inS 2 x = true) (h : Wr wb ws v w) (hT : w.cell? ⟨3, 15, none⟩ = some (.int .u8 4)) (h3 : 3 < wb) (hl : ws.length ≤ 65536) :
    Calls Tryz.prog 59 #[.pointer (some ⟨wb, 0, none⟩), .int .i32 x] w (WPost wb ws (letterW x) v w) := by
  have h0 : 0 ≤ x ∧ x ≤ 1114111 := by simp [inS] at hx; omega
  have hput : ∀ w1, w.grownBy w1 none → Calls Tryz.prog 36 #[.pointer (some ⟨wb, 0, none⟩), .string (letterB x)] w1 (WPost wb ws (letterW x) v w) := by
    intro w1 hg
    rw [← runesOf_letterB x hx]
    refine (put_any (letterB x) (h.kept hg) (by have := letterB_size x hx; omega) hl).mono ?_
    rintro e w' ⟨v', rfl, hw, hgo⟩
    exact ⟨v', rfl, hw, (WGo.grown hg).trans hgo⟩
  have HP := Lib.hid hput
  by_cases h10 : x = 10
  · have b10 : (x == 10) = true := by simpa using h10
    have hB : letterB x = ⟨#[92, 110]⟩ := by unfold letterB; rw [if_pos h10]
    rw [hB] at HP
    clear hput h10 hB h
    go_enter Tryz.func59, Tryz.ntmps59
    go_wp2_with (go_at_call 36; refine (HP.out _ (World.grownBy.refl _ _)).mono ?_; rintro e w' ⟨v', rfl, hw, hgo⟩)
    go_end0
    exact ⟨v', rfl, hw, hgo⟩
  have b10 : (x == 10) = false := by simpa using h10
  by_cases h32 : x < 32 ∨ x = 127
  · have hB : letterB x = (⟨#[92, 117, 123]⟩ : ByteArray) ++ ⟨(hexB x).toArray⟩ ++ ⟨#[125]⟩ := by unfold letterB; rw [if_neg h10, if_pos h32]
    rw [hB] at HP
    have hcase : (x < 32) ∨ (¬ x < 32 ∧ (x == 127) = true) := by
      rcases h32 with h | h
      · exact .inl h
      · exact .inr ⟨by omega, by simpa using h⟩
    have hz : (hexB x).length ≤ 2 := by unfold hexB hexS; split <;> simp
    have hF := fun w1 hw1 => FormatInt16 x h0.1 (by omega) w1 hw1
    have HF := Lib.hid hF; have HT := Lib.hid hT
    clear hput h10 hB h h32 hF hT
    rcases hcase with hc | ⟨hc, hc2⟩
    all_goals
      go_enter Tryz.func59, Tryz.ntmps59
      go_wp2_with (first
        | (go_at_call 74; refine (HF.out _ HT.out).mono ?_; rintro e w' ⟨rfl, hg⟩)
        | (go_at_call 36; refine (HP.out _ hg).mono ?_; rintro e w' ⟨v', rfl, hw, hgo⟩))
      go_end0
      exact ⟨v', rfl, hw, hgo⟩
  have hc : ¬ x < 32 := by omega
  have hc2 : (x == 127) = false := by simp; omega
  by_cases hs : isSign x = true
  · have hB : letterB x = (⟨#[92]⟩ : ByteArray) ++ Utf8.encode x := by unfold letterB; rw [if_neg h10, if_neg h32, if_pos hs]
    rw [hB] at HP
    have HS := Lib.hid hs
    have hz : (Utf8.encode x).size ≤ 4 := enc_size x
    clear hput h10 hB h h32 hT hs
    go_enter Tryz.func59, Tryz.ntmps59
    go_wp2_with (first
      | (go_at_call 75; refine (contains_signs _ _).mono ?_; rintro e w' ⟨rfl, hg⟩; rw [HS.out])
      | (go_at_call 36; refine (HP.out _ hg).mono ?_; rintro e w' ⟨v', rfl, hw, hgo⟩))
    go_end0
    exact ⟨v', rfl, hw, hgo⟩
  · have hs' : isSign x = false := by simpa using hs
    have hB : letterB x = Utf8.encode x := by unfold letterB; rw [if_neg h10, if_neg h32, if_neg hs]
    rw [hB] at HP
    have HS := Lib.hid hs'
    clear hput h10 hB h h32 hT hs hs'
    go_enter Tryz.func59, Tryz.ntmps59
    go_wp2_with (first
      | (go_at_call 75; refine (contains_signs _ _).mono ?_; rintro e w' ⟨rfl, hg⟩; rw [HS.out])
      | (go_at_call 36; refine (HP.out _ hg).mono ?_; rintro e w' ⟨v', rfl, hw, hgo⟩))
    go_end0
    exact ⟨v', rfl, hw, hgo⟩
end Go.Proofs.YtocfmjiollafaaaGreatDoor
