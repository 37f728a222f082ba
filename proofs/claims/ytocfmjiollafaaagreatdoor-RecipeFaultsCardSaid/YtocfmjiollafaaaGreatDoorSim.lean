import Derived.Test.YtocfmjiollafaaaGreatDoorPar
namespace Go.Proofs.YtocfmjiollafaaaGreatDoor
open Go.RowKit
set_option linter.unusedVariables false
set_option linter.unusedSimpArgs false
/-! what a reader tells of one text, it tells of another that reads alike as far as it looked -/
def Pr.fin {α : Type} : Pr α → Nat
  | .ok _ j => j
  | .bad j => j
/-- how far it looked that does not look behind what it read -/
def Pr.red {α : Type} : Pr α → Nat
  | .ok _ j => j - 1
  | .bad j => j
theorem Pr.red_le {α : Type} (r : Pr α) : r.red ≤ r.fin := by cases r <;> simp [Pr.red, Pr.fin]
def Pr.sh {α : Type} (s : Nat) : Pr α → Pr α
  | .ok x j => .ok x (j + s)
  | .bad j => .bad (j + s)
def Pr.isOk {α : Type} : Pr α → Bool
  | .ok _ _ => true
  | .bad _ => false
/-- alike up to a place; where all went well an end may stand for a bracket -/
def Sm (m : Bool) (s : Nat) (l l' : List Int) (e : Nat) : Prop := ∀ k, k ≤ e → sym l' (k + s) = sym l k ∨ (m = true ∧ sym l k = -1 ∧ sym l' (k + s) = 41)
theorem Sm.mono {m : Bool} {s e e' : Nat} {l l' : List Int} (h : Sm m s l l' e) (he : e' ≤ e) : Sm m s l l' e' := fun k hk => h k (Nat.le_trans hk he)
theorem Sm.at_ {m : Bool} {s e : Nat} {l l' : List Int} (h : Sm m s l l' e) {k : Nat} (hk : k ≤ e) (hne : sym l k ≠ -1) : sym l' (k + s) = sym l k := by
  rcases h k hk with h | ⟨_, h, _⟩
  · exact h
  · exact absurd h hne
theorem Sm.test {m : Bool} {s e : Nat} {l l' : List Int} (h : Sm m s l l' e) {k : Nat} (hk : k ≤ e) (c : Int) (hc : c ≠ -1) (h41 : c ≠ 41) : (sym l' (k + s) = c ↔ sym l k = c) := by
  rcases h k hk with h | ⟨_, h1, h2⟩
  · rw [h]
  · rw [h1, h2]; constructor <;> intro h <;> omega
theorem isHex_no : isHex (-1) = false ∧ isHex 41 = false := by decide
theorem hexRun_sim {m : Bool} {s : Nat} {l l' : List Int} : ∀ (mm i : Nat), Sm m s l l' (i + hexRun l i mm) → hexRun l' (i + s) mm = hexRun l i mm
  | 0, i, _ => rfl
  | mm + 1, i, h => by
    rw [hexRun, hexRun]
    rw [hexRun] at h
    rcases h i (by omega) with h0 | ⟨_, h1, h2⟩
    · rw [h0]
      by_cases hx : isHex (sym l i) = true
      · rw [if_pos hx] at h
        rw [if_pos hx, if_pos hx]
        have := hexRun_sim mm (i + 1) (h.mono (by omega))
        rw [show i + s + 1 = i + 1 + s by omega, this]
      · rw [if_neg hx, if_neg hx]
    · rw [h1, h2, isHex_no.1, isHex_no.2]; rfl
theorem hexRun_hex (l : List Int) : ∀ (mm i q : Nat), q < hexRun l i mm → isHex (sym l (i + q)) = true
  | 0, i, q, h => by simp [hexRun] at h
  | mm + 1, i, q, h => by
    rw [hexRun] at h
    by_cases hx : isHex (sym l i) = true
    · rw [if_pos hx] at h
      cases q with
      | zero => exact hx
      | succ q => rw [show i + (q + 1) = i + 1 + q by omega]; exact hexRun_hex l mm (i + 1) q (by omega)
    · rw [if_neg hx] at h; omega
theorem take_sim {l l' : List Int} {i i' k : Nat} (h : ∀ q, q < k → 0 ≤ sym l (i + q) ∧ sym l' (i' + q) = sym l (i + q)) : (l'.drop i').take k = (l.drop i).take k := by
  have key : ∀ (l : List Int) (j : Nat), 0 ≤ sym l j → l[j]? = some (sym l j) := by
    intro l j h
    unfold sym at h ⊢
    rw [List.getD_eq_getElem?_getD] at h ⊢
    cases hl : l[j]? with
    | none => rw [hl] at h; simp at h
    | some x => rfl
  apply List.ext_getElem?
  intro q
  rw [List.getElem?_take, List.getElem?_take, List.getElem?_drop, List.getElem?_drop]
  by_cases hq : q < k
  · obtain ⟨h1, h2⟩ := h q hq
    rw [if_pos hq, if_pos hq, key l (i + q) h1, key l' (i' + q) (by omega), h2]
  · rw [if_neg hq, if_neg hq]
theorem isHex_nn {x : Int} (h : isHex x = true) : 0 ≤ x := by
  have := (isHex_iff x).1 h
  unfold IsHexB at this; omega
theorem numberM_sim {m : Bool} {s : Nat} {l l' : List Int} {i : Nat} (h : Sm m s l l' (numberM l i).red) (hm : m = true → (numberM l i).isOk = true) : numberM l' (i + s) = (numberM l i).sh s := by
  have hk : i + hexRun l i 6 ≤ (numberM l i).red := by
    unfold numberM
    simp only
    split
    · exact Nat.le_refl _
    · split
      · simp [Pr.red]
      · exact Nat.le_refl _
  have hr := hexRun_sim 6 i (h.mono hk)
  have ht := h.test hk 125 (by decide) (by decide)
  have htk : (l'.drop (i + s)).take (hexRun l i 6) = (l.drop i).take (hexRun l i 6) := take_sim fun q hq => by
    have hx := hexRun_hex l 6 i q hq
    refine ⟨isHex_nn hx, ?_⟩
    rw [show i + s + q = i + q + s by omega]
    exact h.at_ (by omega) (by intro e; rw [e] at hx; rw [isHex_no.1] at hx; cases hx)
  unfold numberM
  simp only [hr, htk, show i + s + hexRun l i 6 = i + hexRun l i 6 + s by omega]
  by_cases h0 : hexRun l i 6 = 0 ∨ sym l (i + hexRun l i 6) ≠ 125
  · have h0' : hexRun l i 6 = 0 ∨ sym l' (i + hexRun l i 6 + s) ≠ 125 := by
      rcases h0 with h | h
      · exact .inl h
      · exact .inr (fun e => h (ht.1 e))
    rw [if_pos h0, if_pos h0']; rfl
  · have h0' : ¬ (hexRun l i 6 = 0 ∨ sym l' (i + hexRun l i 6 + s) ≠ 125) := by
      intro h
      rcases h with h | h
      · exact h0 (.inl h)
      · exact h0 (.inr (fun e => h (ht.2 e)))
    rw [if_neg h0, if_neg h0']
    split
    · simp [Pr.sh]; omega
    · rfl
theorem numberM_le (l : List Int) (i : Nat) : i ≤ (numberM l i).red := by
  unfold numberM
  simp only
  split
  · simp [Pr.red]
  · split <;> simp [Pr.red]
theorem escapedM_sim {m : Bool} {s : Nat} {l l' : List Int} {i : Nat} (h : Sm m s l l' (escapedM l i).red) (hm : m = true → (escapedM l i).isOk = true) : escapedM l' (i + s) = (escapedM l i).sh s ∧ i ≤ (escapedM l i).red := by
  unfold escapedM at h hm ⊢
  by_cases h1 : sym l i = 110
  · rw [if_pos h1] at h hm ⊢
    have t := (h.test (k := i) (by simp [Pr.red]) 110 (by decide) (by decide)).2 h1
    rw [if_pos t]
    refine ⟨by simp [Pr.sh]; omega, by simp [Pr.red]⟩
  · rw [if_neg h1] at h hm ⊢
    by_cases h2 : sym l i = 117
    · rw [if_pos h2] at h hm ⊢
      by_cases h3 : sym l (i + 1) = 123
      · rw [if_pos h3] at h hm ⊢
        have hle := numberM_le l (i + 2)
        have t1 := h.at_ (k := i) (by omega) (by omega)
        have t2 := h.at_ (k := i + 1) (by omega) (by omega)
        rw [show i + 1 + s = i + s + 1 by omega] at t2
        rw [t1, if_neg h1, if_pos h2, t2, if_pos h3, show i + s + 2 = i + 2 + s by omega]
        exact ⟨numberM_sim h hm, by omega⟩
      · rw [if_neg h3] at h hm ⊢
        have t1 := h.at_ (k := i) (by simp [Pr.red]) (by omega)
        have t2 := h.test (k := i + 1) (by simp [Pr.red]) 123 (by decide) (by decide)
        rw [show i + 1 + s = i + s + 1 by omega] at t2
        rw [t1, if_neg h1, if_pos h2, if_neg (fun e => h3 (t2.1 e))]
        refine ⟨by simp [Pr.sh]; omega, by simp [Pr.red]⟩
    · rw [if_neg h2] at h hm ⊢
      by_cases h4 : sym l i = -1 ∨ isSign (sym l i) = false
      · rw [if_pos h4] at h hm ⊢
        have hm' : m = false := by cases m with
          | false => rfl
          | true => have := hm rfl; simp [Pr.isOk] at this
        have t := (h i (by simp [Pr.red])).resolve_right (by rw [hm']; simp)
        rw [t, if_neg h1, if_neg h2, if_pos h4]
        exact ⟨rfl, Nat.le_refl _⟩
      · rw [if_neg h4] at h hm ⊢
        have t := h.at_ (k := i) (by simp [Pr.red]) (fun e => h4 (.inl e))
        rw [t, if_neg h1, if_neg h2, if_neg h4]
        refine ⟨by simp [Pr.sh]; omega, by simp [Pr.red]⟩
theorem letterM_sim {m : Bool} {s : Nat} {l l' : List Int} {also : Bool} {i : Nat} (h : Sm m s l l' (letterM l also i).red) (hm : m = true → (letterM l also i).isOk = true) : letterM l' also (i + s) = (letterM l also i).sh s ∧ i ≤ (letterM l also i).red := by
  unfold letterM at h hm ⊢
  by_cases h1 : sym l i = 92
  · rw [if_pos h1] at h hm ⊢
    have hle : i + 1 ≤ (escapedM l (i + 1)).red := by
      have := @escapedM_sim false 0 l l (i + 1) (fun k _ => .inl rfl) (by simp)
      exact this.2
    have t := h.at_ (k := i) (by omega) (by omega)
    rw [t, if_pos h1, show i + s + 1 = i + 1 + s by omega]
    exact ⟨(escapedM_sim h hm).1, by omega⟩
  · rw [if_neg h1] at h hm ⊢
    by_cases h2 : plainB also (sym l i) = true
    · rw [if_pos h2] at h hm ⊢
      have t := h.at_ (k := i) (by simp [Pr.red]) (by intro e; rw [e] at h2; simp [plainB] at h2)
      rw [t, if_neg h1, if_pos h2]
      refine ⟨by simp [Pr.sh]; omega, by simp [Pr.red]⟩
    · rw [if_neg h2] at h hm ⊢
      have hm' : m = false := by cases m with
        | false => rfl
        | true => have := hm rfl; simp [Pr.isOk] at this
      have t := (h i (by simp [Pr.red])).resolve_right (by rw [hm']; simp)
      rw [t, if_neg h1, if_neg h2]
      exact ⟨rfl, Nat.le_refl _⟩
theorem letterM_le (l : List Int) (also : Bool) (i : Nat) : i ≤ (letterM l also i).red := (@letterM_sim false 0 l l also i (fun k _ => .inl rfl) (by simp)).2
theorem lettersM_le {l : List Int} : ∀ (k : Nat) {i : Nat} {acc : List Int} {r : Pr (List Int)}, lettersM k l i acc = some r → i ≤ r.fin
  | 0, i, acc, r, h => by simp [lettersM] at h
  | k + 1, i, acc, r, h => by
    rw [lettersM] at h
    by_cases he : sym l i = 62 ∨ sym l i = 125
    · rw [if_pos he] at h; cases h; exact Nat.le_refl _
    · rw [if_neg he] at h
      have hle := letterM_le l false i
      cases hl : letterM l false i with
      | bad j => rw [hl] at h hle; cases h; exact hle
      | ok x j =>
        rw [hl] at h hle
        have := letterM_lt hl
        have := lettersM_le k h
        omega
theorem lettersM_sim {m : Bool} {s : Nat} {l l' : List Int} : ∀ (k : Nat) {i : Nat} {acc : List Int} {r : Pr (List Int)}, lettersM k l i acc = some r → Sm m s l l' r.fin → (m = true → r.isOk = true) → ∀ k', r.fin - i < k' → lettersM k' l' (i + s) acc = some (r.sh s)
  | 0, i, acc, r, h, _, _, _, _ => by simp [lettersM] at h
  | k + 1, i, acc, r, h, hs, hm, k', hk' => by
    have hle := lettersM_le (k + 1) h
    obtain ⟨k2, rfl⟩ : ∃ k2, k' = k2 + 1 := ⟨k' - 1, by omega⟩
    rw [lettersM] at h ⊢
    have t1 := hs.test hle 62 (by decide) (by decide)
    have t2 := hs.test hle 125 (by decide) (by decide)
    by_cases he : sym l i = 62 ∨ sym l i = 125
    · rw [if_pos he] at h
      cases h
      rw [if_pos (by rw [t1, t2]; exact he)]; rfl
    · rw [if_neg he] at h
      rw [if_neg (by rw [t1, t2]; exact he)]
      cases hl : letterM l false i with
      | bad j =>
        rw [hl] at h
        cases h
        have := (@letterM_sim m s l l' false i (by rw [hl]; exact hs) (by rw [hl]; exact hm)).1
        rw [this, hl]; rfl
      | ok x j =>
        rw [hl] at h
        have hlt := letterM_lt hl
        have hle2 := lettersM_le k h
        have := (@letterM_sim m s l l' false i (by rw [hl]; exact hs.mono (by simp [Pr.red]; omega)) (by rw [hl]; intro _; rfl)).1
        rw [this, hl]
        exact lettersM_sim k h hs hm k2 (by omega)
theorem digRun_sim {m : Bool} {s : Nat} {l l' : List Int} : ∀ (mm i : Nat), Sm m s l l' (i + digRun l i mm) → digRun l' (i + s) mm = digRun l i mm
  | 0, i, _ => rfl
  | mm + 1, i, h => by
    rw [digRun, digRun]
    rw [digRun] at h
    rcases h i (by omega) with h0 | ⟨_, h1, h2⟩
    · rw [h0]
      by_cases hx : isDig (sym l i) = true
      · rw [if_pos hx] at h
        rw [if_pos hx, if_pos hx]
        have := digRun_sim mm (i + 1) (h.mono (by omega))
        rw [show i + s + 1 = i + 1 + s by omega, this]
      · rw [if_neg hx, if_neg hx]
    · rw [h1, h2]; rfl
theorem digRun_dig (l : List Int) : ∀ (mm i q : Nat), q < digRun l i mm → isDig (sym l (i + q)) = true
  | 0, i, q, h => by simp [digRun] at h
  | mm + 1, i, q, h => by
    rw [digRun] at h
    by_cases hx : isDig (sym l i) = true
    · rw [if_pos hx] at h
      cases q with
      | zero => exact hx
      | succ q => rw [show i + (q + 1) = i + 1 + q by omega]; exact digRun_dig l mm (i + 1) q (by omega)
    · rw [if_neg hx] at h; omega
theorem dig_take {m : Bool} {s : Nat} {l l' : List Int} {i : Nat} (h : Sm m s l l' (i + digRun l i 7)) : (l'.drop (i + s)).take (digRun l i 7) = (l.drop i).take (digRun l i 7) := take_sim fun q hq => by
  have hx := digRun_dig l 7 i q hq
  have h0 : 0 ≤ sym l (i + q) := by unfold isDig at hx; simp at hx; omega
  refine ⟨h0, ?_⟩
  rw [show i + s + q = i + q + s by omega]
  exact h.at_ (by omega) (by omega)
theorem behindM_sim {m : Bool} {s : Nat} {l l' : List Int} {i : Nat} {set : List Sp} (h : Sm m s l l' (behindM l i set).fin) (hm : m = true → (behindM l i set).isOk = true) : behindM l' (i + s) set = (behindM l i set).sh s ∧ i ≤ (behindM l i set).fin := by
  unfold behindM at h hm ⊢
  by_cases h1 : sym l i = 33
  · rw [if_pos h1] at h hm ⊢
    have t := (h.test (k := i) (by simp [Pr.fin]) 33 (by decide) (by decide)).2 h1
    rw [if_pos t]
    refine ⟨by simp [Pr.sh]; omega, by simp [Pr.fin]⟩
  · rw [if_neg h1] at h hm ⊢
    by_cases h2 : sym l i = 64
    · rw [if_pos h2] at h hm ⊢
      by_cases h3 : sym l (i + 1) = 45
      · rw [if_pos h3] at h hm ⊢
        have hle : i + 2 + digRun l (i + 2) 7 ≤ (if digRun l (i + 2) 7 = 0 then Pr.bad (i + 2) else Pr.ok (kCopy set (-decV 0 ((l.drop (i + 2)).take (digRun l (i + 2) 7)))) (i + 2 + digRun l (i + 2) 7)).fin := by
          split
          · rename_i h0; rw [h0]; exact Nat.le_refl _
          · exact Nat.le_refl _
        have t1 := h.at_ (k := i) (by omega) (by omega)
        have t2 := h.at_ (k := i + 1) (by omega) (by omega)
        have t3 := digRun_sim 7 (i + 2) (h.mono hle)
        have t4 := dig_take (h.mono hle)
        rw [show i + 1 + s = i + s + 1 by omega] at t2
        rw [t1, if_neg h1, if_pos h2, t2, if_pos h3, show i + s + 2 = i + 2 + s by omega, t3, t4]
        refine ⟨?_, by omega⟩
        split
        · rfl
        · simp [Pr.sh]; omega
      · rw [if_neg h3] at h hm ⊢
        have hle : i + 1 + digRun l (i + 1) 7 ≤ (if digRun l (i + 1) 7 = 0 then Pr.bad (i + 1) else Pr.ok (kCopy set (decV 0 ((l.drop (i + 1)).take (digRun l (i + 1) 7)))) (i + 1 + digRun l (i + 1) 7)).fin := by
          split
          · rename_i h0; rw [h0]; exact Nat.le_refl _
          · exact Nat.le_refl _
        have t1 := h.at_ (k := i) (by omega) (by omega)
        have t2 := h.test (k := i + 1) (by omega) 45 (by decide) (by decide)
        have t3 := digRun_sim 7 (i + 1) (h.mono hle)
        have t4 := dig_take (h.mono hle)
        rw [show i + 1 + s = i + s + 1 by omega] at t2 t3 t4
        rw [t1, if_neg h1, if_pos h2, if_neg (fun e => h3 (t2.1 e)), t3, t4]
        refine ⟨?_, by omega⟩
        split
        · simp [Pr.sh]; omega
        · simp [Pr.sh]; omega
    · rw [if_neg h2] at h hm ⊢
      have t1 := h.test (k := i) (by simp [Pr.fin]) 33 (by decide) (by decide)
      have t2 := h.test (k := i) (by simp [Pr.fin]) 64 (by decide) (by decide)
      rw [if_neg (fun e => h1 (t1.1 e)), if_neg (fun e => h2 (t2.1 e))]
      exact ⟨rfl, Nat.le_refl _⟩
end Go.Proofs.YtocfmjiollafaaaGreatDoor
