import Derived.Test.YtocfmjiollafaaaGreatDoorBnd
namespace Go.Proofs.YtocfmjiollafaaaGreatDoor
open Go.RowKit
set_option linter.unusedVariables false
set_option linter.unusedSimpArgs false
/-- P25.1: a recipe in brackets is the same recipe, as long as there are not too many -/
theorem parse_brackets {l : List Int} {n : Rc} {j : Nat} (hnn : ∀ k, k < l.length → sym l k ≠ -1) (h : parseM l = some (.ok n j)) : (∃ q, parseM (40 :: (l ++ [41])) = some (.bad q)) ∨ ∃ q, parseM (40 :: (l ++ [41])) = some (.ok n q) := by
  have hL : ∀ k, sym (40 :: (l ++ [41])) (k + 1) = if k = l.length then 41 else sym l k := by
    intro k
    show (if True then sym (l ++ [41]) k else 0) = _; rw [if_pos trivial]
    by_cases e : k = l.length
    · rw [if_pos e, e]; unfold sym; simp
    · rw [if_neg e]
      unfold sym
      rw [List.getD_eq_getElem?_getD, List.getD_eq_getElem?_getD]
      by_cases hk : k < l.length
      · rw [List.getElem?_append_left hk]
      · rw [List.getElem?_eq_none (by simp; omega), List.getElem?_eq_none (by omega)]
  have hS : ∀ e, Sm true 1 l (40 :: (l ++ [41])) e := fun e k _ => by
    rw [hL]
    by_cases e : k = l.length
    · right; rw [if_pos e]; refine ⟨rfl, ?_, rfl⟩; rw [e]; simp [sym]
    · left; rw [if_neg e]
  have hlen : (40 :: (l ++ [41])).length = l.length + 2 := by simp
  have h0 : sym (40 :: (l ++ [41])) 0 = 40 := rfl
  generalize hLL : (40 :: (l ++ [41])) = L at hL hS hlen h0
  unfold parseM at h
  cases ha : altM 65 l 0 0 with
  | none => rw [ha] at h; cases h
  | some r =>
    rw [ha] at h
    cases r with
    | bad j => cases h
    | ok n' j' =>
      simp only at h
      have hj : sym l j' = -1 ∧ n' = n := by split at h <;> cases h; exact ⟨by assumption, rfl⟩
      obtain ⟨hend, rfl⟩ := hj
      have hb : j' ≤ l.length := altM_b 65 ha (Nat.zero_le _)
      have hjl : j' = l.length := by
        rcases Nat.lt_or_ge j' l.length with hlt | hge
        · exfalso
          have hz : ∀ (k : Nat), k < l.length → sym l k ≠ -1 := hnn
          exact hz j' hlt hend
        · omega
      have hsim := altM_sim (m := true) (s := 1) (t := 1) (l' := L) (fun _ => rfl) (by decide) 65 ha (by decide) (by decide) (hS _) (fun _ => rfl) (by show j' ≤ L.length; omega)
      rw [show 65 - 1 = 64 from rfl, show 0 + 1 = 1 from rfl] at hsim
      have hne : L.length = (l.length + 1) + 1 := by omega
      have key : ∀ (R : Option (Pr Rc)), altM 64 L 1 1 = R → (∃ q, R = some (.bad q)) ∨ R = some (.ok n' (j' + 1)) := by
        intro R hR
        rw [hR] at hsim
        rcases hsim with e | ⟨_, q, e⟩
        · exact .inr e
        · exact .inl ⟨q, e⟩
      rcases key _ rfl with ⟨q, e⟩ | e
      · left
        refine ⟨q, ?_⟩
        have hat : atomM (altM 64 L) L 0 0 = some (.bad q) := by
          unfold atomM
          rw [h0, if_pos rfl, if_neg (by decide), show 0 + 1 = 1 from rfl, e]
        have hrow : rowG (fun i => atomM (altM 64 L) L i 0) L (L.length + 1) 0 [] = some (.bad q) := by
          rw [rowG, h0, if_neg (by decide), hat]
        unfold parseM
        have hal : altM 65 L 0 0 = some (.bad q) := by
          rw [altM, altG, hrow]
        rw [hal]
      · right
        have h41 : sym L (j' + 1) = 41 := by rw [hL, if_pos hjl]
        have hend2 : sym L (j' + 2) = -1 := by
          rw [show j' + 2 = (j' + 1) + 1 by omega, hL, if_neg (by omega)]
          simp [sym, List.getElem?_eq_none (show l.length ≤ j' + 1 by omega)]
        refine ⟨j' + 2, ?_⟩
        have hat : atomM (altM 64 L) L 0 0 = some (.ok (.nd n') (j' + 2)) := by
          unfold atomM
          rw [h0, if_pos rfl, if_neg (by decide), show 0 + 1 = 1 from rfl, e]
          simp only [h41, if_pos]
        have hst : ∀ k x, starsM L k (j' + 2) x = (x, j' + 2) := by
          intro k x
          cases k with
          | zero => rfl
          | succ k => rw [starsM, hend2, if_neg (by decide)]
        have hrow : rowG (fun i => atomM (altM 64 L) L i 0) L (L.length + 1) 0 [] = some (.ok n' (j' + 2)) := by
          rw [rowG, h0, if_neg (by decide), hat]
          simp only [hst, List.nil_append]
          rw [hne, rowG, hend2, if_pos (.inl rfl)]; rfl
        unfold parseM
        have hal : altM 65 L 0 0 = some (.ok n' (j' + 2)) := by
          rw [altM, altG, hrow]
          simp only [hend2]
          rfl
        rw [hal]
        simp only [hend2, if_pos]
end Go.Proofs.YtocfmjiollafaaaGreatDoor
