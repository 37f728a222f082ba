import Derived.Test.YtocfmjiollafaaaGreatDoorSpn
namespace Go.Proofs.YtocfmjiollafaaaGreatDoor
open Go.RowKit
set_option linter.unusedVariables false
set_option linter.unusedSimpArgs false
/-! plain lists are told apart by what is in them -/
def inL (n : Int) (l : List Sp) : Prop := ∃ x ∈ l, x.lo ≤ n ∧ n ≤ x.hi
def Ful (l : List Sp) : Prop := ∀ x ∈ l, x.lo ≤ x.hi
def PlainF : Int → List Sp → Prop
  | _, [] => True
  | f, x :: l => f < x.lo ∧ x.lo ≤ x.hi ∧ PlainF (x.hi + 1) l
theorem inL_cons (n : Int) (x : Sp) (l : List Sp) : inL n (x :: l) ↔ (x.lo ≤ n ∧ n ≤ x.hi) ∨ inL n l := by
  constructor
  · rintro ⟨y, hy, h⟩
    rcases List.mem_cons.1 hy with rfl | hy
    · exact .inl h
    · exact .inr ⟨y, hy, h⟩
  · rintro (h | ⟨y, hy, h⟩)
    · exact ⟨x, by simp, h⟩
    · exact ⟨y, by simp [hy], h⟩
theorem inL_nil (n : Int) : ¬ inL n [] := by rintro ⟨x, hx, _⟩; cases hx
theorem PlainF.weak {l : List Sp} : ∀ {f g : Int}, PlainF f l → g ≤ f → PlainF g l := by
  cases l with
  | nil => intro f g _ _; trivial
  | cons x l => intro f g h hg; exact ⟨by have := h.1; omega, h.2⟩
theorem PlainF.above {l : List Sp} : ∀ {f n : Int}, PlainF f l → inL n l → f < n := by
  induction l with
  | nil => intro f n _ h; exact absurd h (inL_nil _)
  | cons x l ih =>
    intro f n h hn
    obtain ⟨h1, h2, h3⟩ := h
    rcases (inL_cons _ _ _).1 hn with h | h
    · omega
    · have := ih h3 h; omega
theorem plain_uniq (a : List Sp) : ∀ (b : List Sp) (f g : Int), PlainF f a → PlainF g b → (∀ n, inL n a ↔ inL n b) → a = b := by
  induction a with
  | nil =>
    intro b f g _ hb h
    cases b with
    | nil => rfl
    | cons y b => exact absurd ((h y.lo).2 ⟨y, by simp, Int.le_refl _, hb.2.1⟩) (inL_nil _)
  | cons x a ih =>
    intro b f g ha hb h
    cases b with
    | nil => exact absurd ((h x.lo).1 ⟨x, by simp, Int.le_refl _, ha.2.1⟩) (inL_nil _)
    | cons y b =>
      obtain ⟨a1, a2, a3⟩ := ha
      obtain ⟨b1, b2, b3⟩ := hb
      have hx := (h x.lo).1 ⟨x, by simp, Int.le_refl _, a2⟩
      have hy := (h y.lo).2 ⟨y, by simp, Int.le_refl _, b2⟩
      have e1 : x.lo = y.lo := by
        rcases (inL_cons _ _ _).1 hx with h1 | h1
        · rcases (inL_cons _ _ _).1 hy with h2 | h2
          · omega
          · have := a3.above h2; omega
        · have h3 := b3.above h1
          rcases (inL_cons _ _ _).1 hy with h2 | h2
          · omega
          · have := a3.above h2; omega
      have e2 : x.hi = y.hi := by
        rcases Int.lt_trichotomy x.hi y.hi with hlt | he | hlt
        · have h1 := (h (x.hi + 1)).2 ((inL_cons _ _ _).2 (.inl ⟨by omega, by omega⟩))
          rcases (inL_cons _ _ _).1 h1 with h2 | h2
          · omega
          · have := a3.above h2; omega
        · exact he
        · have h1 := (h (y.hi + 1)).1 ((inL_cons _ _ _).2 (.inl ⟨by omega, by omega⟩))
          rcases (inL_cons _ _ _).1 h1 with h2 | h2
          · omega
          · have := b3.above h2; omega
      have e : x = y := by cases x; cases y; simp_all
      subst e
      rw [ih b _ _ a3 b3 fun n => ?_]
      constructor
      · intro hn
        have := a3.above hn
        rcases (inL_cons _ _ _).1 ((h n).1 ((inL_cons _ _ _).2 (.inr hn))) with h2 | h2
        · omega
        · exact h2
      · intro hn
        have := b3.above hn
        rcases (inL_cons _ _ _).1 ((h n).2 ((inL_cons _ _ _).2 (.inr hn))) with h2 | h2
        · omega
        · exact h2
def Srt (l : List Sp) : Prop := l.Pairwise (fun x y => x.lo ≤ y.lo)
theorem coalG_mem (n : Int) (l : List Sp) : ∀ cur, Srt (cur :: l) → Ful (cur :: l) → (inL n (coalG cur l) ↔ inL n (cur :: l)) := by
  induction l with
  | nil => intro cur _ _; exact Iff.rfl
  | cons x l ih =>
    intro cur hs hf
    have h1 := List.pairwise_cons.1 hs
    have h2 := List.pairwise_cons.1 h1.2
    have hx := h1.1 x (by simp)
    have f1 := hf cur (by simp)
    have f2 := hf x (by simp)
    simp only [coalG]
    split
    · rename_i hc
      rw [ih ⟨cur.lo, mxI cur.hi x.hi⟩ (List.pairwise_cons.2 ⟨fun z hz => h1.1 z (by simp [hz]), h2.2⟩) (by
        intro z hz
        rcases List.mem_cons.1 hz with rfl | hz
        · show cur.lo ≤ mxI _ _; unfold mxI; split <;> omega
        · exact hf z (by simp [hz]))]
      simp only [inL_cons]
      have : mxI cur.hi x.hi = if cur.hi < x.hi then x.hi else cur.hi := rfl
      rw [this]
      constructor
      · rintro (h | h)
        · by_cases hn : n ≤ cur.hi
          · exact .inl ⟨h.1, hn⟩
          · refine .inr (.inl ⟨by omega, ?_⟩)
            have := h.2
            split at this <;> omega
        · exact .inr (.inr h)
      · rintro (h | h | h)
        · refine .inl ⟨h.1, ?_⟩; split <;> omega
        · refine .inl ⟨by omega, ?_⟩; split <;> omega
        · exact .inr h
    · rw [inL_cons, ih x h1.2 (fun z hz => hf z (by simp at hz ⊢; right; exact hz)), ← inL_cons]
theorem coalG_plain (l : List Sp) : ∀ cur f, Srt (cur :: l) → Ful (cur :: l) → f < cur.lo → PlainF f (coalG cur l) := by
  induction l with
  | nil => intro cur f _ hf h; exact ⟨h, hf cur (by simp), trivial⟩
  | cons x l ih =>
    intro cur f hs hf h
    have h1 := List.pairwise_cons.1 hs
    have h2 := List.pairwise_cons.1 h1.2
    have f1 := hf cur (by simp)
    have f2 := hf x (by simp)
    simp only [coalG]
    split
    · refine ih ⟨cur.lo, mxI cur.hi x.hi⟩ f (List.pairwise_cons.2 ⟨fun z hz => h1.1 z (by simp [hz]), h2.2⟩) ?_ h
      intro z hz
      rcases List.mem_cons.1 hz with rfl | hz
      · show cur.lo ≤ mxI _ _; unfold mxI; split <;> omega
      · exact hf z (by simp [hz])
    · exact ⟨h, f1, ih x _ h1.2 (fun z hz => hf z (by simp at hz ⊢; right; exact hz)) (by omega)⟩
theorem coal_mem (n : Int) (l : List Sp) (hs : Srt l) (hf : Ful l) : inL n (coal l) ↔ inL n l := by
  cases l with
  | nil => exact Iff.rfl
  | cons x l => exact coalG_mem n l x hs hf
theorem coal_plain (l : List Sp) (hs : Srt l) (hf : Ful l) : ∃ f, PlainF f (coal l) := by
  cases l with
  | nil => exact ⟨0, trivial⟩
  | cons x l => exact ⟨x.lo - 1, coalG_plain l x _ hs hf (by omega)⟩
theorem coal_perm {a b : List Sp} (hp : ∀ x, x ∈ a ↔ x ∈ b) (ha : Srt a) (hb : Srt b) (hf : Ful a) : coal a = coal b := by
  have hg : Ful b := fun x hx => hf x ((hp x).2 hx)
  obtain ⟨f, h1⟩ := coal_plain a ha hf
  obtain ⟨g, h2⟩ := coal_plain b hb hg
  refine plain_uniq _ _ f g h1 h2 fun n => ?_
  rw [coal_mem n a ha hf, coal_mem n b hb hg]
  constructor
  · rintro ⟨x, hx, h⟩; exact ⟨x, (hp x).1 hx, h⟩
  · rintro ⟨x, hx, h⟩; exact ⟨x, (hp x).2 hx, h⟩
theorem insS_srt (x : Sp) (l : List Sp) (h : Srt l) : Srt (insS x l) := by
  induction l with
  | nil => simp [insS, Srt]
  | cons y l ih =>
    have h1 := List.pairwise_cons.1 h
    simp only [insS]
    split
    · rename_i hxy
      refine List.pairwise_cons.2 ⟨fun z hz => ?_, h⟩
      rcases List.mem_cons.1 hz with rfl | hz
      · exact hxy
      · exact Int.le_trans hxy (h1.1 z hz)
    · refine List.pairwise_cons.2 ⟨fun z hz => ?_, ih h1.2⟩
      rcases (insS_mem _ _ _).1 hz with rfl | hz
      · omega
      · exact h1.1 z hz
theorem isortS_srt (l : List Sp) : Srt (isortS l) := by
  induction l with
  | nil => simp [isortS, Srt]
  | cons x l ih => exact insS_srt x _ ih
theorem normM_of {l s : List Sp} (hp : s.Perm (clipL l)) (hs : Srt s) : coal s = normM l := by
  refine coal_perm (fun x => ?_) hs (isortS_srt _) (fun x hx => (clipL_in l x (hp.mem_iff.1 hx)).2.1)
  rw [isortS_mem, hp.mem_iff]
theorem normM_mem (n : Int) (l : List Sp) : inL n (normM l) ↔ inL n (clipL l) := by
  unfold normM
  rw [coal_mem n _ (isortS_srt _) fun x hx => (clipL_in l x ((isortS_mem x _).1 hx)).2.1]
  constructor
  · rintro ⟨x, hx, h⟩; exact ⟨x, (isortS_mem x _).1 hx, h⟩
  · rintro ⟨x, hx, h⟩; exact ⟨x, (isortS_mem x _).2 hx, h⟩
theorem normM_plain (l : List Sp) : ∃ f, PlainF f (normM l) := coal_plain _ (isortS_srt _) fun x hx => (clipL_in l x ((isortS_mem x _).1 hx)).2.1
end Go.Proofs.YtocfmjiollafaaaGreatDoor
