import Derived.Test.YtocfmjiollafaaaGreatDoorProg
import Derived.Test.YtocfmjiollafaaaGreatDoorMir
import Derived.Test.YtocfmjiollafaaaGreatDoorShelf
import Derived.Deep.QuietTactic
import Derived.BigQuiet
import Derived.IntWalk
namespace Go.Proofs.YtocfmjiollafaaaGreatDoor
open Go.RowKit
set_option linter.unusedVariables false
set_option linter.unusedSimpArgs false
set_option maxRecDepth 100000 in
set_option maxHeartbeats 400000 in
theorem indexRune_bad (s : ByteArray) (x : Int) (w : World) (h1 : x < 0 ∨ 128 ≤ x) (h2 : (x == 65533) = false) (h3 : Lib.validRune x = false) :
    Calls Tryz.prog 88 #[.string s, .int .i32 x] w fun e w' => e = .returned (.int .i64 (-1)) ∧ w = w' := by
  rcases h1 with h1 | h1
  all_goals
    go_enter Tryz.func88, Tryz.ntmps88
    go_wp2_with (go_at_call 98; refine (Tryz.utf8_ValidRune _ _).mono ?_; rintro e w' ⟨rfl, rfl⟩)
    go_ret
    exact ⟨rfl, rfl⟩
def Far (r : ByteArray) : Prop := ∃ m : Nat, r.size = m + 1 ∧ 1 ≤ m ∧ m ≤ 3 ∧ ∀ h : m < r.size, 128 ≤ r[m].toNat
theorem encode_far (x : Int) (h1 : 128 ≤ x) : Far (Utf8.encode x) := by
  have key : ∀ n, 128 ≤ (UInt8.ofNat (0x80 + n % 64)).toNat := by
    intro n
    have : n % 64 < 64 := Nat.mod_lt _ (by omega)
    simp [UInt8.toNat_ofNat]; omega
  unfold Utf8.encode
  generalize hc : (if Utf8.valid x = true then x.toNat else Utf8.runeError) = c
  have hc2 : 128 ≤ c := by
    rw [← hc]; split
    · omega
    · unfold Utf8.runeError; omega
  simp only []
  rw [if_neg (show ¬ c < 0x80 by omega)]
  split
  · exact ⟨1, rfl, by decide, by decide, fun _ => key _⟩
  · split
    · exact ⟨2, rfl, by decide, by decide, fun _ => key _⟩
    · exact ⟨3, rfl, by decide, by decide, fun _ => key _⟩
def Asc (s : ByteArray) : Prop := ∀ b ∈ s.data.toList, b.toNat < 128
theorem indexByte_none (l : List UInt8) (c : UInt8) (h : ∀ b ∈ l, b ≠ c) : Lib.indexByte l c = -1 := by
  induction l with
  | nil => rfl
  | cons b l ih =>
    have h1 : b ≠ c := h b (by simp)
    have h2 := ih fun b hb => h b (by simp [hb])
    simp [Lib.indexByte, h1, h2]
set_option maxRecDepth 100000 in
set_option maxHeartbeats 400000 in
theorem indexRune_far (s : ByteArray) (x : Int) (w : World) (hA : Asc s) (h1 : 128 ≤ x) (h2 : (x == 65533) = false) (h3 : Lib.validRune x = true) :
    Calls Tryz.prog 88 #[.string s, .int .i32 x] w fun e w' => e = .returned (.int .i64 (-1)) ∧ ∃ n, w' = w.drewN n := by
  obtain ⟨m, hm, hm1, hm2, hb⟩ := encode_far x h1
  obtain ⟨r, hr⟩ : ∃ r, Utf8.encode x = r := ⟨_, rfl⟩
  simp only [hr] at hm hb
  have hb1 := hb (by omega)
  by_cases hs : m < s.size
  · have hm' : m < r.size := by omega
    have hne : s[m].toNat < 128 := hA _ (by simp [ByteArray.getElem_eq_getElem_data])
    have hix : Lib.indexByte (s.extract (m + 1) s.size).data.toList (((r[m].toNat : Int)).toNat.toUInt8) = -1 := by
      apply indexByte_none
      intro b hb2 e
      have : b ∈ s.data.toList := by
        simp at hb2
        have := List.mem_of_mem_drop (List.mem_of_mem_take hb2)
        simpa using this
      have := hA b this
      simp at e
      rw [e] at this
      omega
    have hn : ((s[m].toNat : Int) != (r[m].toNat : Int)) = true := by simp; omega
    have hw : wrap64 ((r.size : Int) - 1) = (m : Int) := by rw [hm]; unfold wrap64; omega
    have hw2 : wrap64 ((m : Int) + 1) = (m : Int) + 1 := by unfold wrap64; omega
    have hw3 : IntKind.i64.wrap ((m : Int) + 1) = (m : Int) + 1 := IntWalk.i64_in _ (by omega)
    have hw4 : IntKind.i64.wrap ((r.size : Int) - 1) = (m : Int) := by rw [hm]; exact (IntWalk.i64_in _ (by omega)).trans (by omega)
    have hw5 : ((m : Int) + 1).toNat = m + 1 := by omega
    have hw7 : (m : Int) + 1 ≤ (s.size : Int) := by omega
    have hw6 : (0 : Int) ≤ (m : Int) + 1 := by omega
    have HR := Lib.hid hr; have HX := Lib.hid hix; have HM := Lib.hid hm; clear hA hix hne hb1 hb
    clear hr hm
    go_enter Tryz.func88, Tryz.ntmps88
    go_wp2_with (go_at_call 98; refine (Tryz.utf8_ValidRune _ _).mono ?_; rintro e w' ⟨rfl, rfl⟩)
    go_step3
    go_wp2_with fail
    rw [HR.out]
    go_wp2_with fail
    refine wp_loop_rounds 1 ?_; rw [rounds_succ]
    go_wp2_with fail
    go_step3
    go_wp2_with fail
    go_quiet (fail)
    go_wp2_with fail
    go_quiet ((go_at_call 97; refine (Tryz.strings_IndexByte _ _ _).mono ?_; rintro e w'' ⟨rfl, rfl⟩; exact ⟨rfl, _, rfl⟩))
    rw [HX.out]
    go_wp2
    rw [Exit.noGoto_ret]
    go_wp2
    rw [Exit.noGoto_ret]
    go_ret
    exact ⟨rfl, _, rfl⟩
  · have HR := Lib.hid hr
    have hw : wrap64 ((r.size : Int) - 1) = (m : Int) := by rw [hm]; unfold wrap64; omega
    have hs' : (s.size : Int) ≤ (m : Int) := by omega
    clear hb1 hb
    clear hr hm
    go_enter Tryz.func88, Tryz.ntmps88
    go_wp2_with (go_at_call 98; refine (Tryz.utf8_ValidRune _ _).mono ?_; rintro e w' ⟨rfl, rfl⟩)
    go_step3
    go_wp2_with fail
    rw [HR.out]
    go_wp2_with fail
    refine wp_loop_rounds 1 ?_; rw [rounds_succ]
    go_wp2
    repeat rw [Exit.noGoto_ret]
    go_ret
    exact ⟨rfl, 0, rfl⟩


set_option maxRecDepth 100000 in
set_option maxHeartbeats 400000 in
theorem indexRune_fffd (s : ByteArray) (w : World) (hA : Asc s) (hz : s.size < 100) :
    Calls Tryz.prog 88 #[.string s, .int .i32 65533] w fun e w' => e = .returned (.int .i64 (-1)) ∧ w.grownBy w' none := by
  have HA := Lib.hid hA; clear hA
  go_enter Tryz.func88, Tryz.ntmps88
  go_wp2
  go_loopw [5, 6] (fun _ _ w' => ∃ pos : Nat, w' = w.iter s pos) (fun _ _ w' => s.size - w'.iterPos w.heap.size)
  case atStart => exact ⟨0, rfl⟩
  case round =>
    obtain ⟨pos, rfl⟩ := hrel
    by_cases hp : pos < s.size
    · have ha : s[pos].toNat < 128 := HA.out _ (by simp [ByteArray.getElem_eq_getElem_data])
      have hnx : ∀ ty, (Instr.next (.pointer (some ⟨w.heap.size, 0, none⟩)) true ty).run Tryz.prog (w.iter s pos) = _ := fun ty => run_next_ascii w s pos ty hp ha
      have hn : ((s[pos].toNat : Int) == 65533) = false := by simp; omega
      clear ha
      go_wp2
      go_roundw
      case rel => exact ⟨_, rfl⟩
      case measure => simp; omega
    · have hnx : ∀ ty, (Instr.next (.pointer (some ⟨w.heap.size, 0, none⟩)) true ty).run Tryz.prog (w.iter s pos) = _ := fun ty => run_next_end w s pos ty hp
      go_wp2
      go_ret
      exact ⟨rfl, World.grownBy_alloc w _ _⟩

def inB (s : ByteArray) (x : Int) : Bool := (s.data.toList.map fun b => (b.toNat : Int)).contains x
def BoolG (w : World) (b : Bool) (e : Ending) (w' : World) : Prop := e = .returned (.bool b) ∧ w.grownBy w' none
theorem indexByte_inB (s : ByteArray) (x : Int) (h0 : 0 ≤ x) (h1 : x < 128) : decide (0 ≤ Lib.indexByte s.data.toList x.toNat.toUInt8) = inB s x := by
  have hx : ∀ b : UInt8, (b = x.toNat.toUInt8) ↔ ((b.toNat : Int) = x) := by
    intro b
    constructor
    · rintro rfl; simp; omega
    · intro h
      apply UInt8.toNat_inj.1
      simp
      omega
  unfold inB
  generalize s.data.toList = l
  have key : ∀ l : List UInt8, -1 ≤ Lib.indexByte l x.toNat.toUInt8 ∧ (0 ≤ Lib.indexByte l x.toNat.toUInt8 ↔ ∃ b ∈ l, (b.toNat : Int) = x) := by
    intro l
    induction l with
    | nil => simp [Lib.indexByte]
    | cons b l ih =>
      obtain ⟨ih1, ih2⟩ := ih
      by_cases hb : b = x.toNat.toUInt8
      · have := (hx b).1 hb
        simp [Lib.indexByte, hb]
        omega
      · have hb' : ¬ (b.toNat : Int) = x := fun h => hb ((hx b).2 h)
        simp only [Lib.indexByte, hb, List.mem_cons]
        simp only [beq_iff_eq, hb, if_false]
        constructor
        · split <;> omega
        · constructor
          · intro h
            have : 0 ≤ Lib.indexByte l x.toNat.toUInt8 := by
              revert h; split <;> omega
            obtain ⟨b', h1, h2⟩ := ih2.1 this
            exact ⟨b', .inr h1, h2⟩
          · rintro ⟨b', rfl | h1, h2⟩
            · exact absurd h2 hb'
            · have := ih2.2 ⟨b', h1, h2⟩
              split <;> omega
  rw [Bool.eq_iff_iff]
  simp [(key l).2, List.contains_iff_mem]
theorem inB_none (s : ByteArray) (x : Int) (hA : Asc s) (h : x < 0 ∨ 128 ≤ x) : inB s x = false := by
  unfold inB
  rw [Bool.eq_false_iff]
  intro hc
  simp at hc
  obtain ⟨b, hb, rfl⟩ := hc
  have := hA b (by simpa using hb)
  omega
set_option maxHeartbeats 400000 in
theorem contains_of (s : ByteArray) (x r : Int) (b : Bool) (w : World) (hb : decide (0 ≤ r) = b) (h : Calls Tryz.prog 88 #[.string s, .int .i32 x] w fun e w' => e = .returned (.int .i64 r) ∧ w.grownBy w' none) :
    Calls Tryz.prog 75 #[.string s, .int .i32 x] w (BoolG w b) := by
  have H := Lib.hid h; have HB := Lib.hid hb; clear h hb
  go_enter Tryz.func75, Tryz.ntmps75
  go_wp2_with (go_at_call 88; refine H.out.mono ?_; rintro e w' ⟨rfl, hg⟩)
  go_ret
  exact ⟨by rw [← HB.out]; rfl, hg⟩
theorem contains_any (s : ByteArray) (x : Int) (w : World) (hA : Asc s) (hz : s.size < 100) : Calls Tryz.prog 75 #[.string s, .int .i32 x] w (BoolG w (inB s x)) := by
  by_cases h1 : 0 ≤ x ∧ x < 128
  · exact (Tryz.strings_ContainsRune_ascii s x w h1.1 h1.2).mono fun e w' ⟨he, hw⟩ => ⟨by rw [he, indexByte_inB s x h1.1 h1.2], by rw [hw]; exact World.grownBy.refl _ _⟩
  · rw [inB_none s x hA (by omega)]
    by_cases h2 : x = 65533
    · subst h2
      exact contains_of s _ (-1) _ w rfl (indexRune_fffd s w hA hz)
    · have h2' : (x == 65533) = false := by simpa using h2
      by_cases h3 : Lib.validRune x = true
      · have : 0 ≤ x := by simp [Lib.validRune] at h3; omega
        exact contains_of s _ (-1) _ w rfl ((indexRune_far s x w hA (by omega) h2' h3).mono fun e w' ⟨he, n, hn⟩ => ⟨he, by rw [hn]; exact ⟨rfl, rfl, rfl, Nat.le_refl _, fun _ _ _ => rfl⟩⟩)
      · exact contains_of s _ (-1) _ w rfl ((indexRune_bad s x w (by omega) h2' (by simpa using h3)).mono fun e w' ⟨he, hn⟩ => ⟨he, by rw [← hn]; exact World.grownBy.refl _ _⟩)

theorem contains_signs (x : Int) (w : World) : Calls Tryz.prog 75 #[.string ⟨#[124, 42, 40, 41, 91, 93, 123, 125, 64, 33, 46, 92, 94, 62, 45]⟩, .int .i32 x] w (BoolG w (isSign x)) :=
  contains_any _ x w (by unfold Asc; decide) (by decide)
theorem contains_hex (x : Int) (w : World) : Calls Tryz.prog 75 #[.string ⟨#[48, 49, 50, 51, 52, 53, 54, 55, 56, 57, 97, 98, 99, 100, 101, 102, 65, 66, 67, 68, 69, 70]⟩, .int .i32 x] w (BoolG w (isHex x)) :=
  contains_any _ x w (by unfold Asc; decide) (by decide)
theorem contains_also (b : Bool) (x : Int) (w : World) : Calls Tryz.prog 75 #[.string (alsoB b), .int .i32 x] w (BoolG w (isAlso b x)) := by
  have : isAlso b x = inB (alsoB b) x := by
    cases b
    · rfl
    · rw [Bool.eq_iff_iff]; simp [isAlso, alsoB, inB, or_assoc]
  rw [this]
  exact contains_any _ x w (by cases b <;> (unfold Asc; decide)) (by cases b <;> decide)
end Go.Proofs.YtocfmjiollafaaaGreatDoor
