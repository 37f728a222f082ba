import Derived.Test.YtocfmjiollafaaaGreatDoorSim
namespace Go.Proofs.YtocfmjiollafaaaGreatDoor
open Go.RowKit
set_option linter.unusedVariables false
set_option linter.unusedSimpArgs false
theorem rangesM_le {l : List Int} : ∀ (k : Nat) {i : Nat} {acc : List Sp} {r : Pr (List Sp)}, rangesM k l i acc = some r → i ≤ r.fin
  | 0, i, acc, r, h => by simp [rangesM] at h
  | k + 1, i, acc, r, h => by
    rw [rangesM] at h
    by_cases he : sym l i = 93
    · rw [if_pos he] at h; cases h; exact Nat.le_refl _
    · rw [if_neg he] at h
      have hle := letterM_le l false i
      cases hl : letterM l false i with
      | bad j => rw [hl] at h hle; cases h; exact hle
      | ok lo j =>
        rw [hl] at h hle
        have hlt := letterM_lt hl
        simp only at h
        by_cases h45 : sym l j = 45
        · rw [if_pos h45] at h
          have hle2 := letterM_le l false (j + 1)
          cases hl2 : letterM l false (j + 1) with
          | bad m => rw [hl2] at h hle2; cases h; simp [Pr.red, Pr.fin] at hle2 ⊢; omega
          | ok hi m =>
            rw [hl2] at h
            have hlt2 := letterM_lt hl2
            simp only at h
            by_cases hh : hi < lo
            · rw [if_pos hh] at h; cases h; simp [Pr.fin]; omega
            · rw [if_neg hh] at h
              have := rangesM_le k h; omega
        · rw [if_neg h45] at h
          have := rangesM_le k h; omega
theorem rangesM_sim {m : Bool} {s : Nat} {l l' : List Int} : ∀ (k : Nat) {i : Nat} {acc : List Sp} {r : Pr (List Sp)}, rangesM k l i acc = some r → Sm m s l l' r.fin → (m = true → r.isOk = true) → ∀ k', r.fin - i < k' → rangesM k' l' (i + s) acc = some (r.sh s)
  | 0, i, acc, r, h, _, _, _, _ => by simp [rangesM] at h
  | k + 1, i, acc, r, h, hs, hm, k', hk' => by
    have hle := rangesM_le (k + 1) h
    obtain ⟨k2, rfl⟩ : ∃ k2, k' = k2 + 1 := ⟨k' - 1, by omega⟩
    rw [rangesM] at h ⊢
    have t1 := hs.test hle 93 (by decide) (by decide)
    by_cases he : sym l i = 93
    · rw [if_pos he] at h
      cases h
      rw [if_pos (t1.2 he)]; rfl
    · rw [if_neg he] at h
      rw [if_neg (fun e => he (t1.1 e))]
      cases hl : letterM l false i with
      | bad j =>
        rw [hl] at h
        cases h
        have := (@letterM_sim m s l l' false i (by rw [hl]; exact hs) (by rw [hl]; exact hm)).1
        rw [this, hl]; rfl
      | ok lo j =>
        rw [hl] at h
        have hlt := letterM_lt hl
        simp only at h
        have hj : j ≤ r.fin := by
          by_cases h45 : sym l j = 45
          · rw [if_pos h45] at h
            have hle2 := letterM_le l false (j + 1)
            cases hl2 : letterM l false (j + 1) with
            | bad q => rw [hl2] at h hle2; cases h; simp [Pr.red, Pr.fin] at hle2 ⊢; omega
            | ok hi q =>
              rw [hl2] at h
              have hlt2 := letterM_lt hl2
              simp only at h
              by_cases hh : hi < lo
              · rw [if_pos hh] at h; cases h; simp [Pr.fin]; omega
              · rw [if_neg hh] at h
                have := rangesM_le k h; omega
          · rw [if_neg h45] at h
            exact rangesM_le k h
        have hl' := (@letterM_sim m s l l' false i (by rw [hl]; exact hs.mono (by simp [Pr.red]; omega)) (by rw [hl]; intro _; rfl)).1
        have t45 := hs.test hj 45 (by decide) (by decide)
        rw [hl', hl]
        simp only [Pr.sh]
        by_cases h45 : sym l j = 45
        · rw [if_pos h45] at h
          rw [if_pos (t45.2 h45), show j + s + 1 = j + 1 + s by omega]
          cases hl2 : letterM l false (j + 1) with
          | bad q =>
            rw [hl2] at h
            cases h
            have := (@letterM_sim m s l l' false (j + 1) (by rw [hl2]; exact hs) (by rw [hl2]; exact hm)).1
            rw [this, hl2]; rfl
          | ok hi q =>
            rw [hl2] at h
            have hlt2 := letterM_lt hl2
            simp only at h
            by_cases hh : hi < lo
            · rw [if_pos hh] at h
              cases h
              have := (@letterM_sim m s l l' false (j + 1) (by rw [hl2]; exact hs) (by rw [hl2]; intro _; rfl)).1
              rw [this, hl2]
              simp only [Pr.sh]
              rw [if_pos hh, show q + s - 1 = q - 1 + s by omega]
            · rw [if_neg hh] at h
              have hq := rangesM_le k h
              have := (@letterM_sim m s l l' false (j + 1) (by rw [hl2]; exact hs.mono (by simp [Pr.red]; omega)) (by rw [hl2]; intro _; rfl)).1
              rw [this, hl2]
              simp only [Pr.sh]
              rw [if_neg hh]
              exact rangesM_sim k h hs hm k2 (by omega)
        · rw [if_neg h45] at h
          rw [if_neg (fun e => h45 (t45.1 e))]
          exact rangesM_sim k h hs hm k2 (by omega)
theorem classE_ok (l : List Int) (not : Bool) (r : List Sp) (j : Nat) : classE l not (.ok r j) = (if not = true then (if minusM allS r = [] then Pr.bad j else behindM l (j + 1) (meetM (minusM allS r) allS)) else if r = [] then Pr.ok (kAlt []) (j + 1) else behindM l (j + 1) (meetM r allS)) := rfl
theorem classE_le {l : List Int} {not : Bool} (p : Pr (List Sp)) : p.fin ≤ (classE l not p).fin := by
  cases p with
  | bad j => exact Nat.le_refl _
  | ok r j =>
    show j ≤ Pr.fin (if not = true then (if minusM allS r = [] then Pr.bad j else behindM l (j + 1) (meetM (minusM allS r) allS)) else if r = [] then Pr.ok (kAlt []) (j + 1) else behindM l (j + 1) (meetM r allS))
    split
    · split
      · exact Nat.le_refl _
      · exact Nat.le_of_succ_le (@behindM_sim false 0 l l (j + 1) (meetM (minusM allS r) allS) (fun k _ => .inl rfl) (by simp)).2
    · split
      · exact Nat.le_succ _
      · exact Nat.le_of_succ_le (@behindM_sim false 0 l l (j + 1) (meetM r allS) (fun k _ => .inl rfl) (by simp)).2
theorem classE_sim {m : Bool} {s : Nat} {l l' : List Int} {not : Bool} (p : Pr (List Sp)) (h : Sm m s l l' (classE l not p).fin) (hm : m = true → (classE l not p).isOk = true) : classE l' not (p.sh s) = (classE l not p).sh s ∧ (m = true → p.isOk = true) := by
  cases p with
  | bad j => exact ⟨rfl, hm⟩
  | ok r j =>
    refine ⟨?_, fun _ => rfl⟩
    rw [classE_ok] at h hm
    show classE l' not (.ok r (j + s)) = _
    rw [classE_ok, classE_ok]
    by_cases hn : not = true
    · rw [if_pos hn] at h hm ⊢
      rw [if_pos hn]
      by_cases h0 : minusM allS r = []
      · rw [if_pos h0, if_pos h0]; rfl
      · rw [if_neg h0] at h hm ⊢
        rw [if_neg h0, show j + s + 1 = j + 1 + s by omega]
        exact (behindM_sim h hm).1
    · rw [if_neg hn] at h hm ⊢
      rw [if_neg hn]
      by_cases h0 : r = []
      · rw [if_pos h0, if_pos h0]; simp [Pr.sh]; omega
      · rw [if_neg h0] at h hm ⊢
        rw [if_neg h0, show j + s + 1 = j + 1 + s by omega]
        exact (behindM_sim h hm).1
theorem classM_sim {m : Bool} {s : Nat} {l l' : List Int} {k i : Nat} {r : Pr Rc} (hr : classM k l i = some r) (h : Sm m s l l' r.fin) (hm : m = true → r.isOk = true) (k' : Nat) (hk' : r.fin - i < k') : classM k' l' (i + s) = some (r.sh s) ∧ i ≤ r.fin := by
  unfold classM at hr ⊢
  cases hp : rangesM k l (if sym l i = 94 then i + 1 else i) [] with
  | none => rw [hp] at hr; cases hr
  | some p =>
    rw [hp] at hr
    have hr' : classE l (sym l i == 94) p = r := Option.some.inj hr
    have h1 := rangesM_le k hp
    have h2 : p.fin ≤ r.fin := by rw [← hr']; exact classE_le p
    have hi : i ≤ (if sym l i = 94 then i + 1 else i) := by split <;> omega
    have t := h.test (k := i) (by omega) 94 (by decide) (by decide)
    have tb : (sym l' (i + s) == 94) = (sym l i == 94) := by
      rw [Bool.eq_iff_iff]; simp only [beq_iff_eq]; exact t
    have hE := classE_sim (s := s) (l' := l') p (by rw [hr']; exact h) (by rw [hr']; exact hm)
    have hR := rangesM_sim (s := s) (l' := l') k hp (h.mono h2) hE.2 k' (by omega)
    have ei : (if sym l' (i + s) = 94 then i + s + 1 else i + s) = (if sym l i = 94 then i + 1 else i) + s := by
      by_cases e : sym l i = 94
      · rw [if_pos e, if_pos (t.2 e)]; omega
      · rw [if_neg e, if_neg (fun x => e (t.1 x))]
    refine ⟨?_, by omega⟩
    rw [ei, hR, tb, Option.map_some, hE.1, hr']
theorem pairM_sim {m : Bool} {s : Nat} {l l' : List Int} {i : Nat} {r : Pr Rc} (hr : pairM l i = some r) (h : Sm m s l l' r.fin) (hm : m = true → r.isOk = true) (hl : r.fin ≤ l'.length) : pairM l' (i + s) = some (r.sh s) ∧ i ≤ r.fin := by
  unfold pairM at hr ⊢
  cases h1 : lettersM (l.length + 1) l i [] with
  | none => rw [h1] at hr; cases hr
  | some p =>
    rw [h1] at hr
    have hle1 := lettersM_le _ h1
    cases p with
    | bad j =>
      cases hr
      rw [lettersM_sim (s := s) (l' := l') _ h1 h hm (l'.length + 1) (by simp [Pr.fin] at hl ⊢; omega)]
      exact ⟨rfl, hle1⟩
    | ok a j =>
      simp only at hr
      have hj : j ≤ r.fin := by
        by_cases h62 : sym l j = 62
        · rw [if_pos h62] at hr
          cases h2 : lettersM (l.length + 1) l (j + 1) [] with
          | none => rw [h2] at hr; cases hr
          | some p2 =>
            rw [h2] at hr
            have hle2 := lettersM_le _ h2
            cases p2 with
            | bad q => cases hr; simp [Pr.fin] at hle2 ⊢; omega
            | ok b q =>
              simp only at hr
              split at hr <;> cases hr <;> simp [Pr.fin] at hle2 ⊢ <;> omega
        · rw [if_neg h62] at hr; cases hr; exact Nat.le_refl _
      simp only [Pr.fin] at hle1
      rw [lettersM_sim (s := s) (l' := l') _ h1 (h.mono hj) (fun _ => rfl) (l'.length + 1) (by simp [Pr.fin]; omega)]
      refine ⟨?_, by omega⟩
      simp only [Pr.sh]
      have t62 := h.test hj 62 (by decide) (by decide)
      by_cases h62 : sym l j = 62
      · rw [if_pos h62] at hr
        rw [if_pos (t62.2 h62), show j + s + 1 = j + 1 + s by omega]
        cases h2 : lettersM (l.length + 1) l (j + 1) [] with
        | none => rw [h2] at hr; cases hr
        | some p2 =>
          rw [h2] at hr
          have hle2 := lettersM_le _ h2
          cases p2 with
          | bad q =>
            cases hr
            rw [lettersM_sim (s := s) (l' := l') _ h2 h hm (l'.length + 1) (by simp [Pr.fin] at hl ⊢; omega)]; rfl
          | ok b q =>
            simp only at hr
            simp only [Pr.fin] at hle2
            have hq : q ≤ r.fin := by split at hr <;> cases hr <;> simp [Pr.fin]
            have t125 := h.test hq 125 (by decide) (by decide)
            rw [lettersM_sim (s := s) (l' := l') _ h2 (h.mono hq) (fun _ => rfl) (l'.length + 1) (by simp [Pr.fin]; omega)]
            simp only [Pr.sh]
            by_cases h125 : sym l q = 125
            · rw [if_pos h125] at hr; cases hr
              rw [if_pos (t125.2 h125)]; simp [Pr.sh]; omega
            · rw [if_neg h125] at hr; cases hr
              rw [if_neg (fun e => h125 (t125.1 e))]
      · rw [if_neg h62] at hr; cases hr
        rw [if_neg (fun e => h62 (t62.1 e))]
theorem starsM_le {l : List Int} : ∀ (k i : Nat) (x : Rc), i ≤ (starsM l k i x).2
  | 0, i, x => Nat.le_refl _
  | k + 1, i, x => by
    rw [starsM]
    split
    · have := starsM_le k (i + 1) (kMany [x]) (l := l); omega
    · exact Nat.le_refl _
theorem starsM_end {l : List Int} : ∀ (k i : Nat) (x : Rc), l.length ≤ i + k → sym l (starsM l k i x).2 ≠ 42
  | 0, i, x, h => by
    show sym l i ≠ 42
    intro e
    have := sym_lt e (by decide); omega
  | k + 1, i, x, h => by
    rw [starsM]
    by_cases he : sym l i = 42
    · rw [if_pos he]; exact starsM_end k (i + 1) _ (by omega)
    · rw [if_neg he]; exact he
theorem starsM_sim {m : Bool} {s : Nat} {l l' : List Int} : ∀ (k i : Nat) (x : Rc), l.length ≤ i + k → Sm m s l l' (starsM l k i x).2 → ∀ k', (starsM l k i x).2 - i ≤ k' → starsM l' k' (i + s) x = ((starsM l k i x).1, (starsM l k i x).2 + s)
  | 0, i, x, hl, h, k', hk' => by
    have he : sym l i ≠ 42 := by intro e; have := sym_lt e (by decide); omega
    have t := h.test (k := i) (Nat.le_refl _) 42 (by decide) (by decide)
    cases k' with
    | zero => rfl
    | succ k' =>
      show starsM l' (k' + 1) (i + s) x = (x, i + s)
      rw [starsM, if_neg (fun e => he (t.1 e))]
  | k + 1, i, x, hl, h, k', hk' => by
    have hle := starsM_le (l := l) (k + 1) i x
    have t := h.test hle 42 (by decide) (by decide)
    rw [starsM] at h hk' ⊢
    by_cases he : sym l i = 42
    · rw [if_pos he] at h hk' ⊢
      have hle2 := starsM_le (l := l) k (i + 1) (kMany [x])
      obtain ⟨k2, rfl⟩ : ∃ k2, k' = k2 + 1 := ⟨k' - 1, by omega⟩
      rw [starsM, if_pos (t.2 he), show i + s + 1 = i + 1 + s by omega]
      exact starsM_sim k (i + 1) (kMany [x]) (by omega) h k2 (by omega)
    · rw [if_neg he]
      cases k' with
      | zero => rfl
      | succ k' => rw [starsM, if_neg (fun e => he (t.1 e))]
end Go.Proofs.YtocfmjiollafaaaGreatDoor
