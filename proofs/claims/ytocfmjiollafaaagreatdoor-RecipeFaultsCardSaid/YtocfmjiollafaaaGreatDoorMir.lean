import Derived.Test.YtocfmjiollafaaaGreatDoorBase
import Derived.Laws.Cover4
namespace Go.Proofs.YtocfmjiollafaaaGreatDoor
open Go.RowKit
set_option linter.unusedVariables false
set_option linter.unusedSimpArgs false
/-! symbols and texts -/
/-- is a symbol of a sort? -/
def inS (s x : Int) : Bool := if s = 1 then decide (0 ≤ x ∧ x ≤ 255) else if s = 2 then decide (0 ≤ x ∧ x ≤ 1114111 ∧ (x < 55296 ∨ 57343 < x)) else false
def dec (b0 b1 b2 b3 : Nat) (k1 k2 k3 : Bool) : Nat × Nat :=
  if b0 < 0x80 then (b0, 1)
  else if b0 / 32 == 6 && k1 then
    (if (b0 % 32) * 64 + b1 % 64 ≥ 0x80 then ((b0 % 32) * 64 + b1 % 64, 2) else (0xFFFD, 1))
  else if b0 / 16 == 14 && k1 && k2 then
    (if (b0 % 16) * 4096 + (b1 % 64) * 64 + b2 % 64 ≥ 0x800 && Utf8.valid ((b0 % 16) * 4096 + (b1 % 64) * 64 + b2 % 64 : Nat) then ((b0 % 16) * 4096 + (b1 % 64) * 64 + b2 % 64, 3) else (0xFFFD, 1))
  else if b0 / 8 == 30 && k1 && k2 && k3 then
    (if (b0 % 8) * 262144 + (b1 % 64) * 4096 + (b2 % 64) * 64 + b3 % 64 ≥ 0x10000 && Utf8.valid ((b0 % 8) * 262144 + (b1 % 64) * 4096 + (b2 % 64) * 64 + b3 % 64 : Nat) then ((b0 % 8) * 262144 + (b1 % 64) * 4096 + (b2 % 64) * 64 + b3 % 64, 4) else (0xFFFD, 1))
  else (0xFFFD, 1)
def contB (s : ByteArray) (j : Nat) : Bool := j < s.size && (s.get! j).toNat / 64 == 2
theorem decode_dec (s : ByteArray) (i : Nat) : Utf8.decode s i = dec (s.get! i).toNat (s.get! (i + 1)).toNat (s.get! (i + 2)).toNat (s.get! (i + 3)).toNat (contB s (i + 1)) (contB s (i + 2)) (contB s (i + 3)) := rfl
theorem dec_cases (b0 b1 b2 b3 : Nat) (k1 k2 k3 : Bool) (h0 : b0 < 256) (h1 : b1 < 256) (h2 : b2 < 256) (h3 : b3 < 256) : 1 ≤ (dec b0 b1 b2 b3 k1 k2 k3).2 ∧ (dec b0 b1 b2 b3 k1 k2 k3).2 ≤ 4 ∧ inS 2 ((dec b0 b1 b2 b3 k1 k2 k3).1 : Int) = true := by
  have key : ∀ (r : Nat × Nat), 1 ≤ r.2 → r.2 ≤ 4 → (r.1 < 55296 ∨ (57343 < r.1 ∧ r.1 ≤ 1114111)) → 1 ≤ r.2 ∧ r.2 ≤ 4 ∧ inS 2 (r.1 : Int) = true := by
    intro r a b c
    refine ⟨a, b, ?_⟩
    simp [inS]; omega
  unfold dec
  split
  · exact key _ (by simp) (by simp) (by simp; omega)
  · split
    · split
      · exact key _ (by simp) (by simp) (by simp; omega)
      · exact key _ (by decide) (by decide) (by decide)
    · split
      · split
        · rename_i h
          simp only [Utf8.valid] at h
          exact key _ (by simp) (by simp) (by simp at h ⊢; omega)
        · exact key _ (by decide) (by decide) (by decide)
      · split
        · split
          · rename_i h
            simp only [Utf8.valid] at h
            exact key _ (by simp) (by simp) (by simp at h ⊢; omega)
          · exact key _ (by decide) (by decide) (by decide)
        · exact key _ (by decide) (by decide) (by decide)
theorem decode_cases (s : ByteArray) (i : Nat) : 1 ≤ (Utf8.decode s i).2 ∧ (Utf8.decode s i).2 ≤ 4 ∧ inS 2 ((Utf8.decode s i).1 : Int) = true := by
  rw [decode_dec]
  exact dec_cases _ _ _ _ _ _ _ (UInt8.toNat_lt _) (UInt8.toNat_lt _) (UInt8.toNat_lt _) (UInt8.toNat_lt _)
theorem inS_I32 {x : Int} (h : inS 2 x = true) : I32 x := by
  simp [inS] at h; unfold I32; omega
def fitsM (s : Int) (l : List Int) : Bool := l.all (inS s)
def domS (s : Int) : List Sp := if s = 1 then [⟨0, 255⟩] else if s = 2 then [⟨0, 55295⟩, ⟨57344, 1114111⟩] else []
/-- the runes of a text -/
def runesFromL (s : ByteArray) : Nat → Nat → List Int
  | 0, _ => []
  | b + 1, i => if i < s.size then ((Utf8.decode s i).1 : Int) :: runesFromL s b (i + (Utf8.decode s i).2) else []
def runesOf (s : ByteArray) : List Int := runesFromL s s.size 0
/-- the symbol at a place; -1 behind the end -/
def sym (l : List Int) (i : Nat) : Int := l.getD i (-1)
theorem sym_lt {l : List Int} {i : Nat} {x : Int} (hx : sym l i = x) (h0 : 0 ≤ x) : i < l.length := by
  apply Nat.lt_of_not_le
  intro hle
  have : sym l i = -1 := by simp [sym, List.getD_eq_getElem?_getD, List.getElem?_eq_none hle]
  omega
/-! the four texts that a rune is looked for in -/
def signsL : List Int := [124, 42, 40, 41, 91, 93, 123, 125, 64, 33, 46, 92, 94, 62, 45]
def isSign (x : Int) : Bool := signsL.contains x
def hexL : List Int := [48, 49, 50, 51, 52, 53, 54, 55, 56, 57, 97, 98, 99, 100, 101, 102, 65, 66, 67, 68, 69, 70]
def isHex (x : Int) : Bool := hexL.contains x
def alsoB (b : Bool) : ByteArray := if b then ⟨#[94, 62, 45]⟩ else ⟨#[]⟩
def isAlso (b : Bool) (x : Int) : Bool := b && (x == 94 || x == 62 || x == 45)
/-- a hex digit's number -/
def hexD (c : Int) : Int := if c ≤ 57 then c - 48 else if c ≤ 70 then c - 55 else c - 87
def IsHexB (c : Int) : Prop := (48 ≤ c ∧ c ≤ 57) ∨ (65 ≤ c ∧ c ≤ 70) ∨ (97 ≤ c ∧ c ≤ 102)
theorem isHex_iff (c : Int) : isHex c = true ↔ IsHexB c := by
  unfold isHex hexL IsHexB; simp; omega
theorem hexD_range (x : Int) (h : IsHexB x) : 0 ≤ hexD x ∧ hexD x ≤ 15 := by
  unfold hexD; unfold IsHexB at h; constructor <;> (split <;> (try split) <;> omega)
def hexV (n : Int) : List Int → Int
  | [] => n
  | c :: l => hexV (16 * n + hexD c) l

theorem encode_ascii (x : Int) (h0 : 0 ≤ x) (h1 : x < 128) : (Utf8.encode x).data.toList = [x.toNat.toUInt8] := by
  unfold Utf8.encode
  have hv : Utf8.valid x = true := by simp [Utf8.valid]; omega
  simp only [hv, if_true]
  rw [if_pos (show x.toNat < 0x80 by omega)]
theorem foldl_ascii : ∀ (ds : List Int) (s : ByteArray), (∀ x ∈ ds, 0 ≤ x ∧ x < 128) → (ds.foldl (fun r n => r ++ Utf8.encode n) s).data.toList = s.data.toList ++ ds.map fun x => x.toNat.toUInt8
  | [], s, _ => by simp
  | x :: ds, s, h => by
    rw [List.foldl_cons, foldl_ascii ds _ (fun y hy => h y (by simp [hy]))]
    have := encode_ascii x (h x (by simp)).1 (h x (by simp)).2
    simp [this]
theorem runesBytes_ascii (ds : List Int) (h : ∀ x ∈ ds, 0 ≤ x ∧ x < 128) : (runesBytes ds).data.toList.map (fun b => (b.toNat : Int)) = ds ∧ (runesBytes ds).size = ds.length := by
  have e : (runesBytes ds).data.toList = ds.map fun x => x.toNat.toUInt8 := by
    unfold runesBytes
    rw [foldl_ascii ds _ h]
    simp
  refine ⟨?_, ?_⟩
  · rw [e, List.map_map]
    have : ∀ l : List Int, (∀ x ∈ l, 0 ≤ x ∧ x < 128) → l.map ((fun b : UInt8 => (b.toNat : Int)) ∘ fun x => x.toNat.toUInt8) = l := by
      intro l hl
      induction l with
      | nil => rfl
      | cons x l ih =>
        have hx := hl x (by simp)
        rw [List.map_cons, ih fun y hy => hl y (by simp [hy])]
        simp; omega
    exact this ds h
  · have := congrArg List.length e
    simpa using this
/-! the reader, by definition -/
inductive Pr (α : Type) where
  | ok (x : α) (i : Nat)
  | bad (i : Nat)
def hexRun (l : List Int) : Nat → Nat → Nat
  | _, 0 => 0
  | i, m + 1 => if isHex (sym l i) then 1 + hexRun l (i + 1) m else 0
def numberM (l : List Int) (i : Nat) : Pr Int :=
  let k := hexRun l i 6
  if k = 0 ∨ sym l (i + k) ≠ 125 then .bad (i + k)
  else if inS 2 (hexV 0 ((l.drop i).take k)) then .ok (hexV 0 ((l.drop i).take k)) (i + k + 1) else .bad (i + k)
def escapedM (l : List Int) (i : Nat) : Pr Int :=
  if sym l i = 110 then .ok 10 (i + 1)
  else if sym l i = 117 then (if sym l (i + 1) = 123 then numberM l (i + 2) else .bad (i + 1))
  else if sym l i = -1 ∨ isSign (sym l i) = false then .bad i
  else .ok (sym l i) (i + 1)
def plainB (also : Bool) (x : Int) : Bool := !(x == -1 || decide (x < 32) || x == 127 || (isSign x && !isAlso also x))
def letterM (l : List Int) (also : Bool) (i : Nat) : Pr Int :=
  if sym l i = 92 then escapedM l (i + 1)
  else if plainB also (sym l i) then .ok (sym l i) (i + 1) else .bad i
def lettersM : Nat → List Int → Nat → List Int → Option (Pr (List Int))
  | 0, _, _, _ => none
  | k + 1, l, i, acc => if sym l i = 62 ∨ sym l i = 125 then some (.ok acc i) else
    match letterM l false i with
    | .bad j => some (.bad j)
    | .ok x j => lettersM k l j (acc ++ [x])
def kCopy (set : List Sp) (by_ : Int) : Rc := .mk 1 set by_ [] [] []
def kDrop (set : List Sp) : Rc := .mk 2 set 0 [] [] []
def kPair (r w : List Int) : Rc := .mk 3 [] 0 r w []
def kCat (l : List Rc) : Rc := .mk 4 [] 0 [] [] l
def kAlt (l : List Rc) : Rc := .mk 5 [] 0 [] [] l
def kMany (l : List Rc) : Rc := .mk 6 [] 0 [] [] l
theorem numberM_lt {l : List Int} {i : Nat} {x : Int} {j : Nat} (h : numberM l i = .ok x j) : i < j := by
  unfold numberM at h
  simp only at h
  split at h
  · cases h
  · split at h
    · cases h; omega
    · cases h
theorem escapedM_lt {l : List Int} {i : Nat} {x : Int} {j : Nat} (h : escapedM l i = .ok x j) : i < j := by
  unfold escapedM at h
  split at h
  · cases h; omega
  · split at h
    · split at h
      · have := numberM_lt h; omega
      · cases h
    · split at h
      · cases h
      · cases h; omega
theorem letterM_lt {l : List Int} {also : Bool} {i : Nat} {x : Int} {j : Nat} (h : letterM l also i = .ok x j) : i < j := by
  unfold letterM at h
  split at h
  · have := escapedM_lt h; omega
  · split at h
    · cases h; omega
    · cases h
def isDig (x : Int) : Bool := decide (48 ≤ x) && decide (x ≤ 57)
def digRun (l : List Int) : Nat → Nat → Nat
  | _, 0 => 0
  | i, m + 1 => if isDig (sym l i) then 1 + digRun l (i + 1) m else 0
def decV (n : Int) : List Int → Int
  | [] => n
  | c :: l => decV (10 * n + (c - 48)) l
def behindM (l : List Int) (i : Nat) (set : List Sp) : Pr Rc :=
  if sym l i = 33 then .ok (kDrop set) (i + 1)
  else if sym l i = 64 then
    (if sym l (i + 1) = 45 then
      (if digRun l (i + 2) 7 = 0 then .bad (i + 2) else .ok (kCopy set (-decV 0 ((l.drop (i + 2)).take (digRun l (i + 2) 7)))) (i + 2 + digRun l (i + 2) 7))
    else (if digRun l (i + 1) 7 = 0 then .bad (i + 1) else .ok (kCopy set (decV 0 ((l.drop (i + 1)).take (digRun l (i + 1) 7)))) (i + 1 + digRun l (i + 1) 7)))
  else .ok (kCopy set 0) i
def behindD (l : List Int) (f : Nat) (s : Int) (set : List Sp) : Pr Rc :=
  if digRun l f 7 = 0 then .bad f else .ok (kCopy set (decV 0 ((l.drop f).take (digRun l f 7)) * s)) (f + digRun l f 7)
end Go.Proofs.YtocfmjiollafaaaGreatDoor
