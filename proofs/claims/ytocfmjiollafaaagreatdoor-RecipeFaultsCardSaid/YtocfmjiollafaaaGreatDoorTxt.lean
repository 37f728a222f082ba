import Derived.Test.YtocfmjiollafaaaGreatDoorMir
import Derived.Test.YtocfmjiollafaaaGreatDoorEnc
namespace Go.Proofs.YtocfmjiollafaaaGreatDoor
open Go.RowKit
set_option linter.unusedVariables false
set_option linter.unusedSimpArgs false
/-! what is printed, by definition -/
def hexC (d : Int) : Int := if d < 10 then 48 + d else 87 + d
def hexS (x : Int) : List Int := if x < 16 then [hexC x] else [hexC (x / 16), hexC (x % 16)]
/-- a letter -/
def letterW (x : Int) : List Int :=
  if x = 10 then [92, 110] else if x < 32 ∨ x = 127 then [92, 117, 123] ++ hexS x ++ [125] else if isSign x then [92, x] else [x]
def pairT (r w : List Int) : List Int :=
  if r.length = 1 ∧ w.length = 1 ∧ r.getD 0 0 = w.getD 0 0 then letterW (r.getD 0 0) else [123] ++ r.flatMap letterW ++ [62] ++ w.flatMap letterW ++ [125]
theorem sym_app (pre r : List Int) (k : Nat) : sym (pre ++ r) (pre.length + k) = sym r k := by
  unfold sym
  rw [List.getD_eq_getElem?_getD, List.getElem?_append_right (by omega), Nat.add_sub_cancel_left, List.getD_eq_getElem?_getD]
theorem sym_app0 (pre r : List Int) : sym (pre ++ r) pre.length = sym r 0 := sym_app pre r 0
theorem sym_cons (x : Int) (r : List Int) : sym (x :: r) 0 = x := rfl
theorem sym_succ (x : Int) (r : List Int) (k : Nat) : sym (x :: r) (k + 1) = sym r k := rfl
theorem sym_at0 (pre r : List Int) (x : Int) : sym (pre ++ x :: r) pre.length = x := sym_app0 pre (x :: r)
theorem sym_at1 (pre r : List Int) (x y : Int) : sym (pre ++ x :: y :: r) (pre.length + 1) = y := sym_app pre (x :: y :: r) 1
theorem sym_at2 (pre r : List Int) (x y z : Int) : sym (pre ++ x :: y :: z :: r) (pre.length + 2) = z := sym_app pre (x :: y :: z :: r) 2
theorem hexRun_at : ∀ (ds : List Int) (pre post : List Int) (m : Nat), ds.all isHex = true → ds.length ≤ m → isHex (sym post 0) = false → hexRun (pre ++ (ds ++ post)) pre.length m = ds.length
  | [], pre, post, 0, _, _, _ => rfl
  | [], pre, post, m + 1, _, _, hp => by
    rw [hexRun, sym_app0, List.nil_append, hp]; rfl
  | d :: ds, pre, post, 0, _, h, _ => by simp at h
  | d :: ds, pre, post, m + 1, hd, h, hp => by
    simp only [List.all_cons, Bool.and_eq_true] at hd
    rw [hexRun, sym_app0, List.cons_append, sym_cons, hd.1, if_pos rfl]
    have := hexRun_at ds (pre ++ [d]) post m hd.2 (by simpa using h) hp
    rw [List.append_assoc, List.singleton_append, List.length_append, List.length_singleton] at this
    rw [this, List.length_cons]; omega
theorem numberM_at (ds pre post : List Int) (x : Int) (hd : ds.all isHex = true) (h0 : ds ≠ []) (h6 : ds.length ≤ 6) (hv : hexV 0 ds = x) (hx : inS 2 x = true) :
    numberM (pre ++ (ds ++ 125 :: post)) pre.length = .ok x (pre.length + ds.length + 1) := by
  have h1 := hexRun_at ds pre (125 :: post) 6 hd h6 rfl
  have hne : ds.length ≠ 0 := by simpa using h0
  unfold numberM
  simp only [h1]
  have h2 : sym (pre ++ (ds ++ 125 :: post)) (pre.length + ds.length) = 125 := by
    rw [sym_app, sym_app0]; rfl
  have h3 : ((pre ++ (ds ++ 125 :: post)).drop pre.length).take ds.length = ds := by simp
  rw [if_neg (by rw [h2]; omega), h3, hv, if_pos hx]
theorem hexS_ok : ∀ n : Fin 128, (hexS (n.val : Int)).all isHex = true ∧ hexV 0 (hexS (n.val : Int)) = (n.val : Int) ∧ (hexS (n.val : Int)).length ≤ 6 ∧ hexS (n.val : Int) ≠ [] := by decide
theorem isSign_pos {x : Int} (h : isSign x = true) : x ≠ -1 ∧ x ≠ 110 ∧ x ≠ 117 ∧ x ≠ 10 ∧ 32 ≤ x := by
  unfold isSign signsL at h; simp at h; omega
theorem letterM_at (x : Int) (hx : inS 2 x = true) (also : Bool) (pre post : List Int) : letterM (pre ++ (letterW x ++ post)) also pre.length = .ok x (pre.length + (letterW x).length) := by
  unfold letterW
  have h0 : 0 ≤ x := by simp [inS] at hx; omega
  by_cases h10 : x = 10
  · subst h10
    rw [if_pos rfl]
    show letterM (pre ++ 92 :: 110 :: post) also pre.length = .ok 10 (pre.length + 2)
    unfold letterM
    rw [sym_at0, if_pos rfl]
    unfold escapedM
    rw [sym_at1, if_pos rfl]
  · rw [if_neg h10]
    by_cases h32 : x < 32 ∨ x = 127
    · rw [if_pos h32]
      obtain ⟨e1, e2, e3, e4⟩ := hexS_ok ⟨x.toNat, by omega⟩
      simp only [show ((x.toNat : Nat) : Int) = x by omega] at e1 e2 e3 e4
      have hn := numberM_at (hexS x) (pre ++ [92, 117, 123]) post x e1 e4 e3 e2 hx
      have e : pre ++ ([92, 117, 123] ++ hexS x ++ [125] ++ post) = pre ++ 92 :: 117 :: 123 :: (hexS x ++ 125 :: post) := by simp
      have e' : pre ++ [92, 117, 123] ++ (hexS x ++ 125 :: post) = pre ++ 92 :: 117 :: 123 :: (hexS x ++ 125 :: post) := by simp
      rw [e'] at hn
      rw [e]
      unfold letterM
      rw [sym_at0, if_pos rfl]
      unfold escapedM
      rw [sym_at1, if_neg (by decide : ¬ (117 : Int) = 110), if_pos rfl, sym_at2, if_pos rfl]
      have el : (pre ++ [92, 117, 123]).length = pre.length + 1 + 2 := by simp
      rw [el] at hn
      rw [hn]
      simp only [Pr.ok.injEq, true_and, List.length_append, List.length_cons, List.length_nil]; omega
    · rw [if_neg h32]
      by_cases hs : isSign x = true
      · rw [if_pos hs]
        obtain ⟨s1, s2, s3, s4, s5⟩ := isSign_pos hs
        show letterM (pre ++ 92 :: x :: post) also pre.length = .ok x (pre.length + 2)
        unfold letterM
        rw [sym_at0, if_pos rfl]
        unfold escapedM
        rw [sym_at1, if_neg s2, if_neg s3, if_neg (by rw [hs]; simp [s1])]
      · rw [if_neg hs]
        show letterM (pre ++ x :: post) also pre.length = .ok x (pre.length + 1)
        unfold letterM
        rw [sym_at0]
        have h92 : x ≠ 92 := by intro e; rw [e] at hs; exact hs rfl
        rw [if_neg h92, if_pos]
        unfold plainB
        have hs' : isSign x = false := by simpa using hs
        have a1 : (x == -1) = false := by simp; omega
        have a2 : (x == 127) = false := by simp; omega
        have a3 : decide (x < 32) = false := by simp; omega
        rw [hs', a1, a2, a3]; rfl
theorem letterW_head (x : Int) (hx : inS 2 x = true) (r : List Int) : sym (letterW x ++ r) 0 = 92 ∨ (isSign (sym (letterW x ++ r) 0) = false ∧ 0 ≤ sym (letterW x ++ r) 0) := by
  have h0 : 0 ≤ x := by simp [inS] at hx; omega
  unfold letterW
  by_cases h10 : x = 10
  · rw [if_pos h10]; exact .inl rfl
  · rw [if_neg h10]
    by_cases h32 : x < 32 ∨ x = 127
    · rw [if_pos h32]; exact .inl rfl
    · rw [if_neg h32]
      by_cases hs : isSign x = true
      · rw [if_pos hs]; exact .inl rfl
      · rw [if_neg hs]; exact .inr ⟨by show isSign x = false; simpa using hs, h0⟩
theorem letterW_ne (x : Int) (hx : inS 2 x = true) (r : List Int) (c : Int) (hc : isSign c = true) (h92 : c ≠ 92) : sym (letterW x ++ r) 0 ≠ c := by
  intro e
  rcases letterW_head x hx r with h | ⟨h, _⟩
  · omega
  · rw [e] at h; rw [hc] at h; cases h
theorem letterW_ne1 (x : Int) (hx : inS 2 x = true) (r : List Int) : sym (letterW x ++ r) 0 ≠ -1 := by
  intro e
  rcases letterW_head x hx r with h | ⟨_, h⟩ <;> omega
theorem letterW_len (x : Int) : 1 ≤ (letterW x).length ∧ (letterW x).length ≤ 6 := by
  unfold letterW
  split
  · simp
  · split
    · unfold hexS; split <;> simp
    · split <;> simp
theorem lettersM_at : ∀ (xs : List Int) (acc pre post : List Int) (c : Int) (fuel : Nat), fitsM 2 xs = true → (c = 62 ∨ c = 125) → xs.length < fuel →
    lettersM fuel (pre ++ (xs.flatMap letterW ++ c :: post)) pre.length acc = some (.ok (acc ++ xs) (pre.length + (xs.flatMap letterW).length))
  | [], acc, pre, post, c, 0, _, _, hf => by simp at hf
  | [], acc, pre, post, c, f + 1, _, hc, _ => by
    rw [lettersM, sym_app0]
    have : sym ([].flatMap letterW ++ c :: post) 0 = c := rfl
    rw [this, if_pos hc]; simp
  | x :: xs, acc, pre, post, c, 0, _, _, hf => by simp at hf
  | x :: xs, acc, pre, post, c, f + 1, hx, hc, hf => by
    unfold fitsM at hx
    simp only [List.all_cons, Bool.and_eq_true] at hx
    have ih := lettersM_at xs (acc ++ [x]) (pre ++ letterW x) post c f hx.2 hc (by simpa using hf)
    have hl := letterM_at x hx.1 false pre (xs.flatMap letterW ++ c :: post)
    have n1 := letterW_ne x hx.1 (xs.flatMap letterW ++ c :: post) 62 (by decide) (by decide)
    have n2 := letterW_ne x hx.1 (xs.flatMap letterW ++ c :: post) 125 (by decide) (by decide)
    rw [List.flatMap_cons, List.append_assoc, lettersM, sym_app0, if_neg (by omega), hl]
    simp only [List.append_assoc, List.length_append, List.singleton_append] at ih ⊢
    rw [ih, Nat.add_assoc]
/-! runes of what runes were written as -/
theorem inS_valid {x : Int} (h : inS 2 x = true) : Utf8.valid x = true := by
  simp [inS] at h; simp [Utf8.valid]; omega
theorem encode_pos (x : Int) : 1 ≤ (Utf8.encode x).data.toList.length := by
  unfold Utf8.encode
  simp only
  repeat' split
  all_goals simp
theorem runesFrom_back : ∀ (l : List Int) (s : ByteArray) (pre : List UInt8) (b : Nat), fitsM 2 l = true → s.data.toList = pre ++ l.flatMap (fun x => (Utf8.encode x).data.toList) → l.length ≤ b → runesFromL s b pre.length = l
  | [], s, pre, b, _, hs, _ => by
    have : s.size = pre.length := by have := congrArg List.length hs; simpa using this
    cases b with
    | zero => rfl
    | succ b => rw [runesFromL, if_neg (by omega)]
  | x :: l, s, pre, 0, _, _, h => by simp at h
  | x :: l, s, pre, b + 1, hx, hs, h => by
    unfold fitsM at hx
    simp only [List.all_cons, Bool.and_eq_true] at hx
    rw [List.flatMap_cons, ← List.append_assoc] at hs
    have hd := decode_at s x (inS_valid hx.1) pre _ hs
    have ih := runesFrom_back l s (pre ++ (Utf8.encode x).data.toList) b hx.2 hs (by simpa using h)
    have hp := encode_pos x
    have hsz : pre.length < s.size := by have := congrArg List.length hs; simp at this hp; omega
    have h0 : 0 ≤ x := by have := hx.1; simp [inS] at this; omega
    rw [runesFromL, if_pos hsz, hd]
    rw [List.length_append] at ih
    simp only [ih]
    congr 1; omega
theorem runesOf_back (l : List Int) (h : fitsM 2 l = true) (s : ByteArray) (hs : s.data.toList = l.flatMap fun x => (Utf8.encode x).data.toList) : runesOf s = l := by
  refine runesFrom_back l s [] s.size h (by simpa using hs) ?_
  have := congrArg List.length hs
  simp only [Array.length_toList] at this
  have hsz : s.size = (l.flatMap fun x => (Utf8.encode x).data.toList).length := this
  rw [hsz]
  clear hs hsz this h
  induction l with
  | nil => simp
  | cons x l ih => rw [List.flatMap_cons, List.length_append, List.length_cons]; have := encode_pos x; omega
end Go.Proofs.YtocfmjiollafaaaGreatDoor
