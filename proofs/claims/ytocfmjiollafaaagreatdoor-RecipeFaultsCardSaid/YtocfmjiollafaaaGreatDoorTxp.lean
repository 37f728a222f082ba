import Derived.Test.YtocfmjiollafaaaGreatDoorPar
import Derived.Test.YtocfmjiollafaaaGreatDoorTxt
namespace Go.Proofs.YtocfmjiollafaaaGreatDoor
open Go.RowKit
set_option linter.unusedVariables false
set_option linter.unusedSimpArgs false
/-! one atom is a whole text -/
theorem parse_atom (l : List Int) (a : Atm) (ha : ∀ alt, atomM alt l 0 0 = some (.ok a l.length)) (h0 : sym l 0 ≠ -1 ∧ sym l 0 ≠ 124 ∧ sym l 0 ≠ 41) : parseM l = some (.ok a.rc l.length) := by
  have hend : sym l l.length = -1 := by simp [sym]
  have hst : ∀ k x, starsM l k l.length x = (x, l.length) := by
    intro k x
    cases k with
    | zero => rfl
    | succ k => rw [starsM, hend]; rfl
  have hl : l ≠ [] := by rintro rfl; exact h0.1 rfl
  obtain ⟨m, hm⟩ : ∃ m, l.length = m + 1 := ⟨l.length - 1, by have := List.length_pos_iff.2 hl; omega⟩
  have hrow : rowG (fun i => atomM (altM 64 l) l i 0) l (l.length + 1) 0 [] = some (.ok a.rc l.length) := by
    rw [rowG, if_neg (by omega), ha]
    simp only [hst, List.nil_append]
    rw [hm, rowG, ← hm, hend, if_pos (.inl rfl)]; rfl
  unfold parseM
  have hal : altM 65 l 0 0 = some (.ok a.rc l.length) := by
    rw [altM, altG, hrow]
    simp only [hend]
    rfl
  rw [hal]
  simp only [hend, if_pos]
theorem parse_pair (r w : List Int) (hr : fitsM 2 r = true) (hw : fitsM 2 w = true) : parseM (pairT r w) = some (.ok (kPair r w) (pairT r w).length) := by
  unfold pairT
  by_cases h : r.length = 1 ∧ w.length = 1 ∧ r.getD 0 0 = w.getD 0 0
  · rw [if_pos h]
    obtain ⟨h1, h2, h3⟩ := h
    obtain ⟨x, rfl⟩ := List.length_eq_one_iff.1 h1
    obtain ⟨y, rfl⟩ := List.length_eq_one_iff.1 h2
    obtain rfl : x = y := h3
    have hx : inS 2 x = true := by simpa [fitsM] using hr
    show parseM (letterW x) = some (.ok (kPair [x] [x]) (letterW x).length)
    have hl := letterM_at x hx true [] []
    have e : [] ++ (letterW x ++ []) = letterW x := by simp
    have hne := fun c hc h92 => letterW_ne x hx [] c hc h92
    have hn1 := letterW_ne1 x hx []
    rw [e] at hl
    rw [List.append_nil] at hne hn1
    refine parse_atom _ (.lt x) (fun alt => ?_) ⟨hn1, hne 124 (by decide) (by decide), hne 41 (by decide) (by decide)⟩
    unfold atomM
    rw [if_neg (hne 40 (by decide) (by decide)), if_neg (hne 46 (by decide) (by decide)), if_neg (hne 91 (by decide) (by decide)), if_neg (hne 123 (by decide) (by decide))]
    simp at hl
    rw [hl]; rfl
  · rw [if_neg h]
    refine parse_atom _ (.nd (kPair r w)) (fun alt => ?_) (by simp only [List.append_assoc, List.cons_append, sym_cons]; decide)
    have h1 := lettersM_at r [] [123] (w.flatMap letterW ++ [125]) 62 (([123] ++ r.flatMap letterW ++ [62] ++ w.flatMap letterW ++ [125]).length + 1) hr (.inl rfl) (by
      have : r.length ≤ (r.flatMap letterW).length := by
        clear hr h
        induction r with
        | nil => simp
        | cons x r ih => rw [List.flatMap_cons, List.length_append, List.length_cons]; have h1 := (letterW_len x).1; omega
      simp at this ⊢; omega)
    have h2 := lettersM_at w [] ([123] ++ r.flatMap letterW ++ [62]) [] 125 (([123] ++ r.flatMap letterW ++ [62] ++ w.flatMap letterW ++ [125]).length + 1) hw (.inr rfl) (by
      have : w.length ≤ (w.flatMap letterW).length := by
        clear hw h h1
        induction w with
        | nil => simp
        | cons x r ih => rw [List.flatMap_cons, List.length_append, List.length_cons]; have h1 := (letterW_len x).1; omega
      simp at this ⊢; omega)
    have e1 : [123] ++ (r.flatMap letterW ++ 62 :: (w.flatMap letterW ++ [125])) = [123] ++ r.flatMap letterW ++ [62] ++ w.flatMap letterW ++ [125] := by simp
    have e2 : [123] ++ r.flatMap letterW ++ [62] ++ (w.flatMap letterW ++ [125]) = [123] ++ r.flatMap letterW ++ [62] ++ w.flatMap letterW ++ [125] := by simp
    rw [e1] at h1
    rw [e2] at h2
    have s1 : sym ([123] ++ r.flatMap letterW ++ [62] ++ w.flatMap letterW ++ [125]) 0 = 123 := by simp [sym]
    have s2 : sym ([123] ++ r.flatMap letterW ++ [62] ++ w.flatMap letterW ++ [125]) (1 + (r.flatMap letterW).length) = 62 := by
      have := sym_app0 ([123] ++ r.flatMap letterW) (62 :: (w.flatMap letterW ++ [125]))
      rw [show [123] ++ r.flatMap letterW ++ [62] ++ w.flatMap letterW ++ [125] = ([123] ++ r.flatMap letterW) ++ (62 :: (w.flatMap letterW ++ [125])) by simp, show 1 + (r.flatMap letterW).length = ([123] ++ r.flatMap letterW).length by simp; omega, this]; rfl
    have s3 : sym ([123] ++ r.flatMap letterW ++ [62] ++ w.flatMap letterW ++ [125]) (([123] ++ r.flatMap letterW ++ [62]).length + (w.flatMap letterW).length) = 125 := by
      have := sym_app0 ([123] ++ r.flatMap letterW ++ [62] ++ w.flatMap letterW) [125]
      rw [List.length_append] at this
      rw [this]; rfl
    generalize hL : [123] ++ r.flatMap letterW ++ [62] ++ w.flatMap letterW ++ [125] = L at *
    have hlen : L.length = ([123] ++ r.flatMap letterW ++ [62]).length + (w.flatMap letterW).length + 1 := by
      rw [← hL]; simp only [List.length_append, List.length_cons, List.length_nil]
    unfold atomM
    rw [s1, if_neg (by decide), if_neg (by decide), if_neg (by decide), if_pos rfl]
    unfold pairM
    have e3 : ([123] : List Int).length = 0 + 1 := rfl
    rw [e3] at h1
    rw [h1]
    simp only [List.nil_append]
    have e4 : 0 + 1 + (r.flatMap letterW).length = 1 + (r.flatMap letterW).length := by omega
    rw [e4, s2, if_pos rfl]
    have e5 : 1 + (r.flatMap letterW).length + 1 = ([123] ++ r.flatMap letterW ++ [62]).length := by simp; omega
    rw [e5, h2]
    simp only [List.nil_append, s3, if_pos]
    rw [← hlen]; rfl
/-! the example -/
def awakeN : Rc := kAlt [kPair [97] [97], kMany [kCat [kPair [98] [98], kPair [99] [99]]]]
theorem awake1 : parseM [97, 124, 40, 98, 99, 41, 42] = some (.ok awakeN 7) := by rfl
theorem awake2 : parseM [40, 97] = some (.bad 2) := by rfl
end Go.Proofs.YtocfmjiollafaaaGreatDoor
