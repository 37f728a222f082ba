import Derived.Test.YtocfmjiollafaaaGreatDoorBrk
namespace Go.Proofs.YtocfmjiollafaaaGreatDoor
open Go.RowKit
set_option linter.unusedVariables false
set_option linter.unusedSimpArgs false
/-! every text is read to an end: the rounds are enough -/
variable {l : List Int}
theorem letter_end {also : Bool} {i : Nat} (h : l.length ≤ i) : letterM l also i = .bad i := by
  have e : sym l i = -1 := by simp [sym, List.getElem?_eq_none h]
  unfold letterM
  rw [e, if_neg (by decide), if_neg (by simp [plainB])]
theorem lettersM_tot : ∀ (k i : Nat) (acc : List Int), i ≤ l.length → l.length - i < k → ∃ r, lettersM k l i acc = some r
  | 0, i, acc, _, h => by omega
  | k + 1, i, acc, hi, h => by
    rw [lettersM]
    split
    · exact ⟨_, rfl⟩
    · have hb := letterM_b (l := l) (also := false) hi
      cases hl : letterM l false i with
      | bad j => exact ⟨_, rfl⟩
      | ok x j =>
        rw [hl] at hb
        have hlt := letterM_lt hl
        simp [Pr.fin] at hb
        exact lettersM_tot k j _ hb (by omega)
theorem rangesM_tot : ∀ (k i : Nat) (acc : List Sp), i ≤ l.length → l.length - i < k → ∃ r, rangesM k l i acc = some r
  | 0, i, acc, _, h => by omega
  | k + 1, i, acc, hi, h => by
    rw [rangesM]
    split
    · exact ⟨_, rfl⟩
    · have hb := letterM_b (l := l) (also := false) hi
      cases hl : letterM l false i with
      | bad j => exact ⟨_, rfl⟩
      | ok lo j =>
        rw [hl] at hb
        have hlt := letterM_lt hl
        simp [Pr.fin] at hb
        simp only
        by_cases h45 : sym l j = 45
        · rw [if_pos h45]
          have hj := sym_lt h45 (by decide)
          have hb2 := letterM_b (l := l) (also := false) (i := j + 1) hj
          cases hl2 : letterM l false (j + 1) with
          | bad m => exact ⟨_, rfl⟩
          | ok hi2 m =>
            rw [hl2] at hb2
            have hlt2 := letterM_lt hl2
            simp [Pr.fin] at hb2
            simp only
            split
            · exact ⟨_, rfl⟩
            · exact rangesM_tot k m _ hb2 (by omega)
        · rw [if_neg h45]
          exact rangesM_tot k j _ hb (by omega)
theorem pairM_tot {i : Nat} (hi : i ≤ l.length) : ∃ r, pairM l i = some r := by
  unfold pairM
  obtain ⟨p, hp⟩ := lettersM_tot (l := l) (l.length + 1) i [] hi (by omega)
  rw [hp]
  have hb := lettersM_b _ hp hi
  cases p with
  | bad j => exact ⟨_, rfl⟩
  | ok a j =>
    simp only
    by_cases h62 : sym l j = 62
    · rw [if_pos h62]
      obtain ⟨p2, hp2⟩ := lettersM_tot (l := l) (l.length + 1) (j + 1) [] (sym_lt h62 (by decide)) (by omega)
      rw [hp2]
      cases p2 with
      | bad q => exact ⟨_, rfl⟩
      | ok b q => simp only; split <;> exact ⟨_, rfl⟩
    · rw [if_neg h62]; exact ⟨_, rfl⟩
theorem atomM_tot {alt : Nat → Nat → Option (Pr Rc)} {d i : Nat} (HA : d ≠ 64 → ∀ i, i ≤ l.length → ∃ r, alt i (d + 1) = some r) (hi : i ≤ l.length) : ∃ r, atomM alt l i d = some r := by
  unfold atomM
  by_cases h40 : sym l i = 40
  · rw [if_pos h40]
    by_cases h64 : d = 64
    · rw [if_pos h64]; exact ⟨_, rfl⟩
    · rw [if_neg h64]
      obtain ⟨r, hr⟩ := HA h64 (i + 1) (sym_lt h40 (by decide))
      rw [hr]
      cases r with
      | bad j => exact ⟨_, rfl⟩
      | ok n j => simp only; split <;> exact ⟨_, rfl⟩
  · rw [if_neg h40]
    by_cases h46 : sym l i = 46
    · rw [if_pos h46]; exact ⟨_, rfl⟩
    · rw [if_neg h46]
      by_cases h91 : sym l i = 91
      · rw [if_pos h91]
        unfold classM
        have hi1 := sym_lt h91 (by decide)
        obtain ⟨r, hr⟩ := rangesM_tot (l := l) (l.length + 1) (if sym l (i + 1) = 94 then i + 1 + 1 else i + 1) [] (by
          by_cases e : sym l (i + 1) = 94
          · rw [if_pos e]; exact sym_lt e (by decide)
          · rw [if_neg e]; exact hi1) (by omega)
        rw [hr]; exact ⟨_, rfl⟩
      · rw [if_neg h91]
        by_cases h123 : sym l i = 123
        · rw [if_pos h123]
          obtain ⟨r, hr⟩ := pairM_tot (l := l) (i := i + 1) (sym_lt h123 (by decide))
          rw [hr]; exact ⟨_, rfl⟩
        · rw [if_neg h123]; exact ⟨_, rfl⟩
theorem rowG_tot {atom : Nat → Option (Pr Atm)} (HA : ∀ i, i ≤ l.length → ∃ r, atom i = some r) (HB : ∀ i r, atom i = some r → i ≤ l.length → r.fin ≤ l.length) (HL : ∀ i r, atom i = some r → i ≤ r.fin ∧ ∀ a j, r = .ok a j → i < j) :
    ∀ (k i : Nat) (acc : List Rc), i ≤ l.length → l.length - i < k → ∃ r, rowG atom l k i acc = some r
  | 0, i, acc, _, h => by omega
  | k + 1, i, acc, hi, h => by
    rw [rowG]
    split
    · exact ⟨_, rfl⟩
    · obtain ⟨r, hr⟩ := HA i hi
      rw [hr]
      have hb := HB _ _ hr hi
      have hl := HL _ _ hr
      cases r with
      | bad j => exact ⟨_, rfl⟩
      | ok a j =>
        simp only
        have h1 := hl.2 a j rfl
        have h2 := starsM_le (l := l) l.length j a.rc
        simp [Pr.fin] at hb
        exact rowG_tot HA HB HL k _ _ (starsM_b _ _ _ hb) (by omega)
theorem altG_tot {row : Nat → Option (Pr Rc)} (HA : ∀ i, i ≤ l.length → ∃ r, row i = some r) (HB : ∀ i r, row i = some r → i ≤ l.length → r.fin ≤ l.length) (HL : ∀ i r, row i = some r → i ≤ r.fin) :
    ∀ (k i : Nat) (acc : List Rc), i ≤ l.length → l.length - i < k → ∃ r, altG row l k i acc = some r
  | 0, i, acc, _, h => by omega
  | k + 1, i, acc, hi, h => by
    rw [altG]
    obtain ⟨r, hr⟩ := HA i hi
    rw [hr]
    have hb := HB _ _ hr hi
    have hl := HL _ _ hr
    cases r with
    | bad j => exact ⟨_, rfl⟩
    | ok x j =>
      simp only
      simp [Pr.fin] at hb hl
      by_cases e : sym l j = 124
      · have hj := sym_lt e (by decide)
        rw [if_pos e]
        exact altG_tot HA HB HL k (j + 1) _ hj (by omega)
      · rw [if_neg e]; exact ⟨_, rfl⟩
theorem altM_tot : ∀ (k i d : Nat), k + d = 65 → d ≤ 64 → i ≤ l.length → ∃ r, altM k l i d = some r
  | 0, i, d, hk, hd, _ => by omega
  | k + 1, i, d, hk, hd, hi => by
    rw [altM]
    have HB := fun i r (h : atomM (altM k l) l i d = some r) hi => atomM_b (l := l) (fun i r h hi => altM_b k h hi) h hi
    have HL := fun i r (h : atomM (altM k l) l i d = some r) => atomM_lt (l := l) (fun i r h => altM_le l k h) h
    refine altG_tot (fun i hi => ?_) (fun i r h hi => rowG_b HB (l.length + 1) h hi) (fun i r h => rowG_le HL (l.length + 1) h) (l.length + 1) i [] hi (by omega)
    exact rowG_tot (fun i hi => atomM_tot (fun h64 i hi => altM_tot k i (d + 1) (by omega) (by omega) hi) hi) HB HL (l.length + 1) i [] hi (by omega)
theorem parseM_tot (l : List Int) : ∃ r, parseM l = some r ∧ r.fin ≤ l.length := by
  unfold parseM
  obtain ⟨r, hr⟩ := altM_tot (l := l) 65 0 0 (by decide) (by decide) (Nat.zero_le _)
  have hb := altM_b 65 hr (Nat.zero_le _)
  rw [hr]
  cases r with
  | bad j => exact ⟨_, rfl, hb⟩
  | ok n j =>
    simp only
    split
    · exact ⟨_, rfl, hb⟩
    · exact ⟨_, rfl, hb⟩
end Go.Proofs.YtocfmjiollafaaaGreatDoor
