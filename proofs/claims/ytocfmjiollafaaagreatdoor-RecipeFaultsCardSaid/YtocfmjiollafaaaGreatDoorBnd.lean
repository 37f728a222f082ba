import Derived.Test.YtocfmjiollafaaaGreatDoorSic
namespace Go.Proofs.YtocfmjiollafaaaGreatDoor
open Go.RowKit
set_option linter.unusedVariables false
set_option linter.unusedSimpArgs false
/-! no reader goes behind a text's end -/
variable {l : List Int}
theorem hexRun_b : ∀ (m i : Nat), i ≤ l.length → i + hexRun l i m ≤ l.length
  | 0, i, h => h
  | m + 1, i, h => by
    rw [hexRun]
    split
    · rename_i hx
      have := sym_lt (l := l) (i := i) rfl (isHex_nn hx)
      have := hexRun_b m (i + 1) (by omega)
      omega
    · exact h
theorem digRun_b : ∀ (m i : Nat), i ≤ l.length → i + digRun l i m ≤ l.length
  | 0, i, h => h
  | m + 1, i, h => by
    rw [digRun]
    split
    · rename_i hx
      have := sym_lt (l := l) (i := i) rfl (by unfold isDig at hx; simp at hx; omega)
      have := digRun_b m (i + 1) (by omega)
      omega
    · exact h
theorem numberM_b {i : Nat} (h : i ≤ l.length) : (numberM l i).fin ≤ l.length := by
  have hb := hexRun_b 6 i h
  unfold numberM
  simp only
  split
  · exact hb
  · rename_i h0
    have h125 : sym l (i + hexRun l i 6) = 125 := by
      apply Classical.byContradiction
      intro e; exact h0 (.inr e)
    have := sym_lt h125 (by decide)
    split
    · exact this
    · exact hb
theorem isSign_nn {x : Int} (h : isSign x = true) : 0 ≤ x := by unfold isSign signsL at h; simp at h; omega
theorem escapedM_b {i : Nat} (h : i ≤ l.length) : (escapedM l i).fin ≤ l.length := by
  unfold escapedM
  by_cases h1 : sym l i = 110
  · rw [if_pos h1]; exact sym_lt h1 (by decide)
  · rw [if_neg h1]
    by_cases h2 : sym l i = 117
    · have h2' := sym_lt h2 (by decide)
      rw [if_pos h2]
      by_cases h3 : sym l (i + 1) = 123
      · have h3' := sym_lt h3 (by decide)
        rw [if_pos h3]; exact numberM_b (by omega)
      · rw [if_neg h3]; exact h2'
    · rw [if_neg h2]
      by_cases h4 : sym l i = -1 ∨ isSign (sym l i) = false
      · rw [if_pos h4]; exact h
      · rw [if_neg h4]
        have hs : isSign (sym l i) = true := by
          cases hx : isSign (sym l i) with
          | true => rfl
          | false => exact absurd (.inr hx) h4
        exact sym_lt rfl (by have := isSign_nn hs; exact this)
theorem letterM_b {also : Bool} {i : Nat} (h : i ≤ l.length) : (letterM l also i).fin ≤ l.length := by
  unfold letterM
  by_cases h1 : sym l i = 92
  · rw [if_pos h1]; exact escapedM_b (sym_lt h1 (by decide))
  · rw [if_neg h1]
    by_cases h2 : plainB also (sym l i) = true
    · rw [if_pos h2]
      exact sym_lt rfl (by unfold plainB at h2; simp at h2; omega)
    · rw [if_neg h2]; exact h
theorem lettersM_b : ∀ (k : Nat) {i : Nat} {acc : List Int} {r : Pr (List Int)}, lettersM k l i acc = some r → i ≤ l.length → r.fin ≤ l.length
  | 0, i, acc, r, h, _ => by simp [lettersM] at h
  | k + 1, i, acc, r, h, hi => by
    rw [lettersM] at h
    have hb := letterM_b (l := l) (also := false) hi
    split at h
    · cases h; exact hi
    · cases hl : letterM l false i with
      | bad j => rw [hl] at h hb; cases h; exact hb
      | ok x j => rw [hl] at h hb; exact lettersM_b k h hb
theorem behindM_b {set : List Sp} {i : Nat} (h : i ≤ l.length) : (behindM l i set).fin ≤ l.length := by
  unfold behindM
  by_cases h1 : sym l i = 33
  · rw [if_pos h1]; exact sym_lt h1 (by decide)
  · rw [if_neg h1]
    by_cases h2 : sym l i = 64
    · have h2' := sym_lt h2 (by decide)
      rw [if_pos h2]
      by_cases h3 : sym l (i + 1) = 45
      · have h3' := sym_lt h3 (by decide)
        rw [if_pos h3]
        have := digRun_b (l := l) 7 (i + 2) (by omega)
        split
        · simp [Pr.fin]; omega
        · exact this
      · rw [if_neg h3]
        have := digRun_b (l := l) 7 (i + 1) (by omega)
        split
        · simp [Pr.fin]; omega
        · exact this
    · rw [if_neg h2]; exact h
theorem rangesM_b : ∀ (k : Nat) {i : Nat} {acc : List Sp} {r : Pr (List Sp)}, rangesM k l i acc = some r → i ≤ l.length → r.fin ≤ l.length
  | 0, i, acc, r, h, _ => by simp [rangesM] at h
  | k + 1, i, acc, r, h, hi => by
    rw [rangesM] at h
    have hb := letterM_b (l := l) (also := false) hi
    split at h
    · cases h; exact hi
    · cases hl : letterM l false i with
      | bad j => rw [hl] at h hb; cases h; exact hb
      | ok lo j =>
        rw [hl] at h hb
        simp only at h
        by_cases h45 : sym l j = 45
        · rw [if_pos h45] at h
          have hb2 := letterM_b (l := l) (also := false) (sym_lt h45 (by decide) : j + 1 ≤ l.length)
          cases hl2 : letterM l false (j + 1) with
          | bad m => rw [hl2] at h hb2; cases h; exact hb2
          | ok hi2 m =>
            rw [hl2] at h hb2
            simp only at h
            split at h
            · cases h; simp [Pr.fin] at hb2 ⊢; omega
            · exact rangesM_b k h hb2
        · rw [if_neg h45] at h; exact rangesM_b k h hb
theorem rangesM_at93 : ∀ (k : Nat) {i : Nat} {acc : List Sp} {r : Pr (List Sp)}, rangesM k l i acc = some r → ∀ q j, r = .ok q j → sym l j = 93
  | 0, i, acc, r, h, _, _, _ => by simp [rangesM] at h
  | k + 1, i, acc, r, h, q, j, e => by
    rw [rangesM] at h
    split at h
    · rename_i h93; cases h; cases e; exact h93
    · cases hl : letterM l false i with
      | bad j' => rw [hl] at h; cases h; cases e
      | ok lo j' =>
        rw [hl] at h
        simp only at h
        split at h
        · cases hl2 : letterM l false (j' + 1) with
          | bad m => rw [hl2] at h; cases h; cases e
          | ok hi2 m =>
            rw [hl2] at h
            simp only at h
            split at h
            · cases h; cases e
            · exact rangesM_at93 k h q j e
        · exact rangesM_at93 k h q j e
theorem classM_b {k i : Nat} {r : Pr Rc} (h : classM k l i = some r) (hi : i ≤ l.length) : r.fin ≤ l.length := by
  unfold classM at h
  cases hp : rangesM k l (if sym l i = 94 then i + 1 else i) [] with
  | none => rw [hp] at h; cases h
  | some p =>
    rw [hp] at h
    have hr : classE l (sym l i == 94) p = r := Option.some.inj h
    have hb := rangesM_b k hp (by
      by_cases e : sym l i = 94
      · rw [if_pos e]; exact sym_lt e (by decide)
      · rw [if_neg e]; exact hi)
    have he := rangesM_at93 k hp
    rw [← hr]
    cases p with
    | bad j => exact hb
    | ok q j =>
      have hj := sym_lt (he q j rfl) (by decide)
      rw [classE_ok]
      split
      · split
        · exact hb
        · exact behindM_b hj
      · split
        · exact hj
        · exact behindM_b hj
theorem pairM_b {i : Nat} {r : Pr Rc} (h : pairM l i = some r) (hi : i ≤ l.length) : r.fin ≤ l.length := by
  unfold pairM at h
  cases h1 : lettersM (l.length + 1) l i [] with
  | none => rw [h1] at h; cases h
  | some p =>
    rw [h1] at h
    have hb := lettersM_b _ h1 hi
    cases p with
    | bad j => cases h; exact hb
    | ok a j =>
      simp only at h
      by_cases h62 : sym l j = 62
      · rw [if_pos h62] at h
        cases h2 : lettersM (l.length + 1) l (j + 1) [] with
        | none => rw [h2] at h; cases h
        | some p2 =>
          rw [h2] at h
          have hb2 := lettersM_b _ h2 (sym_lt h62 (by decide))
          cases p2 with
          | bad q => cases h; exact hb2
          | ok b q =>
            simp only at h
            by_cases h125 : sym l q = 125
            · rw [if_pos h125] at h; cases h; exact sym_lt h125 (by decide)
            · rw [if_neg h125] at h; cases h; exact hb2
      · rw [if_neg h62] at h; cases h; exact hb
theorem starsM_b : ∀ (k i : Nat) (x : Rc), i ≤ l.length → (starsM l k i x).2 ≤ l.length
  | 0, i, x, h => h
  | k + 1, i, x, h => by
    rw [starsM]
    split
    · rename_i e; exact starsM_b k (i + 1) _ (sym_lt e (by decide))
    · exact h
theorem atomM_b {alt : Nat → Nat → Option (Pr Rc)} {d i : Nat} {r : Pr Atm} (HL : ∀ i r, alt i (d + 1) = some r → i ≤ l.length → r.fin ≤ l.length) (hr : atomM alt l i d = some r) (hi : i ≤ l.length) : r.fin ≤ l.length := by
  unfold atomM at hr
  by_cases h40 : sym l i = 40
  · have h40' := sym_lt h40 (by decide)
    rw [if_pos h40] at hr
    split at hr
    · cases hr; exact hi
    · cases ha : alt (i + 1) (d + 1) with
      | none => rw [ha] at hr; cases hr
      | some p =>
        rw [ha] at hr
        have hb := HL _ _ ha h40'
        cases p with
        | bad j => cases hr; exact hb
        | ok n j =>
          simp only at hr
          by_cases h41 : sym l j = 41
          · rw [if_pos h41] at hr; cases hr; exact sym_lt h41 (by decide)
          · rw [if_neg h41] at hr; cases hr; exact hb
  · rw [if_neg h40] at hr
    by_cases h46 : sym l i = 46
    · rw [if_pos h46] at hr; cases hr; rw [map_fin]; exact behindM_b (sym_lt h46 (by decide))
    · rw [if_neg h46] at hr
      by_cases h91 : sym l i = 91
      · rw [if_pos h91] at hr
        cases hc : classM (l.length + 1) l (i + 1) with
        | none => rw [hc] at hr; cases hr
        | some p => rw [hc] at hr; cases hr; rw [map_fin]; exact classM_b hc (sym_lt h91 (by decide))
      · rw [if_neg h91] at hr
        by_cases h123 : sym l i = 123
        · rw [if_pos h123] at hr
          cases hc : pairM l (i + 1) with
          | none => rw [hc] at hr; cases hr
          | some p => rw [hc] at hr; cases hr; rw [map_fin]; exact pairM_b hc (sym_lt h123 (by decide))
        · rw [if_neg h123] at hr; cases hr; rw [map_fin]; exact letterM_b hi
theorem rowG_b {atom : Nat → Option (Pr Atm)} (HL : ∀ i r, atom i = some r → i ≤ l.length → r.fin ≤ l.length) : ∀ (k : Nat) {i : Nat} {acc : List Rc} {r : Pr Rc}, rowG atom l k i acc = some r → i ≤ l.length → r.fin ≤ l.length
  | 0, i, acc, r, h, _ => by simp [rowG] at h
  | k + 1, i, acc, r, h, hi => by
    rw [rowG] at h
    split at h
    · cases h; exact hi
    · cases ha : atom i with
      | none => rw [ha] at h; cases h
      | some p =>
        rw [ha] at h
        have hb := HL _ _ ha hi
        cases p with
        | bad j => cases h; exact hb
        | ok a j => exact rowG_b HL k h (starsM_b _ _ _ hb)
theorem altG_b {row : Nat → Option (Pr Rc)} (HL : ∀ i r, row i = some r → i ≤ l.length → r.fin ≤ l.length) : ∀ (k : Nat) {i : Nat} {acc : List Rc} {r : Pr Rc}, altG row l k i acc = some r → i ≤ l.length → r.fin ≤ l.length
  | 0, i, acc, r, h, _ => by simp [altG] at h
  | k + 1, i, acc, r, h, hi => by
    rw [altG] at h
    cases ha : row i with
    | none => rw [ha] at h; cases h
    | some p =>
      rw [ha] at h
      have hb := HL _ _ ha hi
      cases p with
      | bad j => cases h; exact hb
      | ok x j =>
        simp only at h
        by_cases e : sym l j = 124
        · rw [if_pos e] at h; exact altG_b HL k h (sym_lt e (by decide))
        · rw [if_neg e] at h; cases h; exact hb
theorem altM_b : ∀ (k : Nat) {i d : Nat} {r : Pr Rc}, altM k l i d = some r → i ≤ l.length → r.fin ≤ l.length
  | 0, i, d, r, h, _ => by simp [altM] at h
  | k + 1, i, d, r, h, hi => by
    rw [altM] at h
    exact altG_b (fun i r h hi => rowG_b (fun i r h hi => atomM_b (fun i r h hi => altM_b k h hi) h hi) (l.length + 1) h hi) (l.length + 1) h hi
end Go.Proofs.YtocfmjiollafaaaGreatDoor
