import Derived.Test.YtocfmjiollafaaaGreatDoorMir
namespace Go.Proofs.YtocfmjiollafaaaGreatDoor
open Go.RowKit
set_option linter.unusedVariables false
set_option linter.unusedSimpArgs false
/-! sets as spans, by definition -/
def clipS (x : Sp) : Sp := ⟨mxI x.lo (-1073741824), mnI x.hi 1073741824⟩
def clipL (l : List Sp) : List Sp := (l.map clipS).filter fun x => decide (x.lo ≤ x.hi)
def insS (x : Sp) : List Sp → List Sp
  | [] => [x]
  | y :: l => if x.lo ≤ y.lo then x :: y :: l else y :: insS x l
def isortS : List Sp → List Sp
  | [] => []
  | x :: l => insS x (isortS l)
def coalG (cur : Sp) : List Sp → List Sp
  | [] => [cur]
  | x :: l => if x.lo ≤ cur.hi + 1 then coalG ⟨cur.lo, mxI cur.hi x.hi⟩ l else cur :: coalG x l
def coal : List Sp → List Sp
  | [] => []
  | x :: l => coalG x l
def normM (l : List Sp) : List Sp := coal (isortS (clipL l))
def meetS (x y : Sp) : Sp := ⟨mxI x.lo y.lo, mnI x.hi y.hi⟩
def meetGo : Nat → List Sp → List Sp → List Sp
  | 0, _, _ => []
  | _ + 1, [], _ => []
  | _ + 1, _ :: _, [] => []
  | k + 1, x :: a, y :: b => (if (meetS x y).lo ≤ (meetS x y).hi then [meetS x y] else []) ++ (if x.hi < y.hi then meetGo k a (y :: b) else meetGo k (x :: a) b)
def meetM (a b : List Sp) : List Sp := meetGo ((normM a).length + (normM b).length) (normM a) (normM b)
def gapsGo (f : Int) : List Sp → List Sp
  | [] => [⟨f, 1073741824⟩]
  | x :: l => ⟨f, x.lo - 1⟩ :: gapsGo (x.hi + 1) l
def minusM (a b : List Sp) : List Sp := meetM a (gapsGo (-1073741824) (normM b))
def withinM (a b : List Sp) : Bool := (minusM a b).isEmpty
def moveM (s : List Sp) (by_ : Int) : List Sp := if by_ < -2147483648 ∨ 2147483648 < by_ then [] else normM ((normM s).map fun x => ⟨x.lo + by_, x.hi + by_⟩)
def checkFrom (last : Int) : List Sp → Bool
  | [] => true
  | x :: xs => if x.lo > x.hi || x.lo < -1073741824 || x.hi > 1073741824 || x.lo ≤ last + 1 then false else checkFrom x.hi xs
def checkM (l : List Sp) : Bool := checkFrom (-1073741826) l
/-- within the numbers of sets -/
def InM (l : List Sp) : Prop := ∀ x ∈ l, -1073741824 ≤ x.lo ∧ x.lo ≤ x.hi ∧ x.hi ≤ 1073741824
theorem clipL_in (l : List Sp) : InM (clipL l) := by
  intro x hx
  simp only [clipL, List.mem_filter, List.mem_map, decide_eq_true_eq] at hx
  obtain ⟨⟨y, _, rfl⟩, h⟩ := hx
  revert h
  simp only [clipS, mxI, mnI]
  split <;> split <;> intro h <;> (refine ⟨?_, h, ?_⟩ <;> omega)
theorem insS_mem (x y : Sp) (l : List Sp) : y ∈ insS x l ↔ y = x ∨ y ∈ l := by
  induction l with
  | nil => simp [insS]
  | cons z l ih =>
    simp only [insS]
    split
    · simp
    · simp only [List.mem_cons, ih]
      constructor
      · rintro (h | h | h) <;> simp [h]
      · rintro (h | h | h) <;> simp [h]
theorem isortS_mem (y : Sp) (l : List Sp) : y ∈ isortS l ↔ y ∈ l := by
  induction l with
  | nil => simp [isortS]
  | cons x l ih => simp [isortS, insS_mem, ih]
theorem coalG_in (l : List Sp) : ∀ cur, InM (cur :: l) → InM (coalG cur l) := by
  induction l with
  | nil => intro cur h; exact h
  | cons x l ih =>
    intro cur h
    have hc := h cur (by simp)
    have hx := h x (by simp)
    simp only [coalG]
    split
    · refine ih _ fun y hy => ?_
      rcases List.mem_cons.1 hy with rfl | hy
      · refine ⟨hc.1, ?_, ?_⟩ <;> (dsimp only [mxI]; split <;> omega)
      · exact h y (by simp [hy])
    · intro y hy
      rcases List.mem_cons.1 hy with rfl | hy
      · exact hc
      · exact ih x (fun z hz => h z (by simp at hz; rcases hz with rfl | hz <;> simp [*])) y hy
theorem coal_in (l : List Sp) (h : InM l) : InM (coal l) := by
  cases l with
  | nil => exact h
  | cons x l => exact coalG_in l x h
theorem normM_in (l : List Sp) : InM (normM l) := coal_in _ fun y hy => clipL_in l y ((isortS_mem y _).1 hy)
theorem coalG_len (l : List Sp) : ∀ cur, (coalG cur l).length ≤ l.length + 1 := by
  induction l with
  | nil => intro cur; simp [coalG]
  | cons x l ih => intro cur; simp only [coalG]; split; · have := ih ⟨cur.lo, mxI cur.hi x.hi⟩; simp; omega
                   · have := ih x; simp; omega
theorem insS_len (x : Sp) (l : List Sp) : (insS x l).length = l.length + 1 := by
  induction l with
  | nil => rfl
  | cons y l ih => simp only [insS]; split <;> simp [ih]
theorem isortS_len (l : List Sp) : (isortS l).length = l.length := by
  induction l with
  | nil => rfl
  | cons x l ih => simp [isortS, insS_len, ih]
theorem normM_len (l : List Sp) : (normM l).length ≤ l.length := by
  have h1 : (clipL l).length ≤ l.length := by
    unfold clipL
    have := List.length_filter_le (fun x : Sp => decide (x.lo ≤ x.hi)) (l.map clipS)
    simpa using this
  unfold normM
  rw [← isortS_len] at h1
  cases h : isortS (clipL l) with
  | nil => simp [coal]
  | cons x m => rw [h] at h1; have := coalG_len m x; simp only [coal]; simp at h1; omega
theorem meetGo_len : ∀ k a b, (meetGo k a b).length ≤ k
  | 0, _, _ => by simp [meetGo]
  | _ + 1, [], _ => by simp [meetGo]
  | _ + 1, _ :: _, [] => by simp [meetGo]
  | k + 1, x :: a, y :: b => by
    have h1 := meetGo_len k a (y :: b)
    have h2 := meetGo_len k (x :: a) b
    simp only [meetGo]
    split <;> split <;> simp <;> omega
theorem gapsGo_len (l : List Sp) : ∀ f, (gapsGo f l).length = l.length + 1 := by
  induction l with
  | nil => intro f; rfl
  | cons x l ih => intro f; simp [gapsGo, ih]
end Go.Proofs.YtocfmjiollafaaaGreatDoor
