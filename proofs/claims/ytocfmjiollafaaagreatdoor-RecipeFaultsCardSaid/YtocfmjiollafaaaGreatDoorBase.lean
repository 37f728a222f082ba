import Derived.WalkKit
import Derived.WalkSpells
import Derived.WalkLawsBesides
import Derived.Lib.Hide
import Derived.Maps.AppendAt
import Derived.Deep.AppendLies
namespace Go.Proofs.YtocfmjiollafaaaGreatDoor
open Go.RowKit
set_option linter.unusedVariables false
set_option linter.unusedSimpArgs false

def maxN : Nat := 140737488355328
def I64 (x : Int) : Prop := -9223372036854775808 ≤ x ∧ x ≤ 9223372036854775807
def I32 (x : Int) : Prop := -2147483648 ≤ x ∧ x ≤ 2147483647
instance (x : Int) : Decidable (I64 x) := inferInstanceAs (Decidable (_ ∧ _))
instance (x : Int) : Decidable (I32 x) := inferInstanceAs (Decidable (_ ∧ _))

/-- How a value of a Lean type lies in memory: its cells. 'ok' holds of the blocks that are reached. -/
structure Kd (α : Type) where
  sz : Nat
  K : World → (Nat → Prop) → α → List Value → Prop
  len : ∀ {w ok x cs}, K w ok x cs → cs.length = sz
  step : ∀ {w w' : World} {ok ok' : Nat → Prop} {x cs}, (∀ k, ok k → ok' k ∧ w'.heap[k]? = w.heap[k]?) → K w ok x cs → K w' ok' x cs
  one : ∀ {w ok x cs}, K w ok x cs → ∀ u ∈ cs, u.oneCell' = true

variable {α : Type}
def Kd.At (d : Kd α) (w : World) (ok : Nat → Prop) (b o : Nat) (x : α) : Prop := ∃ cs, d.K w ok x cs ∧ ∀ j u, cs[j]? = some u → w.cell? ⟨b, o + j, none⟩ = some u
/-- The array of a slice reads as a list. -/
def Kd.C (d : Kd α) (w : World) (ok : Nat → Prop) (A : Option Addr) (xs : List α) : Prop :=
  xs.length ≤ maxN ∧ (xs = [] ∨ ∃ b o, A = some ⟨b, o, none⟩ ∧ ok b ∧ ∀ i (h : i < xs.length), d.At w ok b (o + i * d.sz) xs[i])
theorem Kd.At.step {d : Kd α} {w w' : World} {ok ok' : Nat → Prop} {b o : Nat} {x : α} (hs : ∀ k, ok k → ok' k ∧ w'.heap[k]? = w.heap[k]?) (hb : ok b) (h : d.At w ok b o x) : d.At w' ok' b o x := by
  obtain ⟨cs, hK, hc⟩ := h
  refine ⟨cs, d.step hs hK, fun j u hu => ?_⟩
  rw [World.cell?_of_block (w := w) (w' := w') (hs b hb).2]
  exact hc j u hu
theorem Kd.C.step {d : Kd α} {w w' : World} {ok ok' : Nat → Prop} {A : Option Addr} {xs : List α} (hs : ∀ k, ok k → ok' k ∧ w'.heap[k]? = w.heap[k]?) (h : d.C w ok A xs) : d.C w' ok' A xs := by
  obtain ⟨hl, h⟩ := h
  refine ⟨hl, ?_⟩
  rcases h with h | ⟨b, o, hA, hb, hc⟩
  · exact .inl h
  · exact .inr ⟨b, o, hA, (hs b hb).1, fun i hi => (hc i hi).step hs hb⟩

def live (w : World) : Nat → Prop := fun k => k < w.heap.size
theorem live_step {w w' : World} (h : w.grownBy w' none) : ∀ k, live w k → live w' k ∧ w'.heap[k]? = w.heap[k]? :=
  fun k hk => ⟨Nat.lt_of_lt_of_le hk h.size, h.block k hk (by simp)⟩
/-- live, but for one block -/
def but (w : World) (r : Nat) : Nat → Prop := fun k => k < w.heap.size ∧ k ≠ r
theorem but_step {w w' : World} {r : Nat} (h : w.grownBy w' (some r)) : ∀ k, but w r k → but w' r k ∧ w'.heap[k]? = w.heap[k]? :=
  fun k hk => ⟨⟨Nat.lt_of_lt_of_le hk.1 h.size, hk.2⟩, h.block k hk.1 (by simp [hk.2])⟩
theorem below_grown {w w' : World} (h : Below w.heap.size w w') : w.grownBy w' none := ⟨h.os, h.tape, h.output, h.size, fun k hk _ => h.block k hk⟩
theorem grown_below {w w' : World} (h : w.grownBy w' none) : Below w.heap.size w w' := ⟨h.os, h.tape, h.output, h.size, fun k hk => h.block k hk (by simp)⟩

/-! kinds -/
def Kd.int (k : IntKind) (p : Int → Prop) : Kd Int where
  sz := 1
  K _ _ x cs := cs = [.int k x] ∧ p x
  len h := by rw [h.1]; rfl
  step _ h := h
  one h := by rw [h.1]; intro u hu; simp at hu; subst hu; rfl
abbrev kRune : Kd Int := Kd.int .i32 I32
abbrev kByte : Kd Int := Kd.int .u8 (fun x => 0 ≤ x ∧ x ≤ 255)

structure Sp where
  lo : Int
  hi : Int
deriving DecidableEq, Repr
def kSp : Kd Sp where
  sz := 2
  K _ _ x cs := cs = [.int .i64 x.lo, .int .i64 x.hi] ∧ I64 x.lo ∧ I64 x.hi
  len h := by rw [h.1]; rfl
  step _ h := h
  one h := by rw [h.1]; intro u hu; simp at hu; rcases hu with rfl | rfl <;> rfl

def Kd.slice (d : Kd α) : Kd (List α) where
  sz := 1
  K w ok x cs := ∃ A c, cs = [.slice A x.length c] ∧ x.length ≤ c ∧ d.C w ok A x
  len h := by obtain ⟨A, c, rfl, _⟩ := h; rfl
  step hs h := by obtain ⟨A, c, rfl, hc, h⟩ := h; exact ⟨A, c, rfl, hc, h.step hs⟩
  one h := by obtain ⟨A, c, rfl, _⟩ := h; intro u hu; simp at hu; subst hu; rfl

inductive Rc where
  | mk (kind : Int) (set : List Sp) (by_ : Int) (read write : List Int) (l : List Rc)
mutual
def Rc.K (w : World) (ok : Nat → Prop) : Rc → List Value → Prop
  | .mk kind set by_ read write l, cs => ∃ A1 c1 A3 c3 A4 c4 A5 c5, cs = [.int .i64 kind, .slice A1 set.length c1, .int .i64 by_, .slice A3 read.length c3, .slice A4 write.length c4, .slice A5 l.length c5] ∧ I64 kind ∧ I64 by_ ∧
      (set.length ≤ c1 ∧ kSp.C w ok A1 set) ∧ (read.length ≤ c3 ∧ kRune.C w ok A3 read) ∧ (write.length ≤ c4 ∧ kRune.C w ok A4 write) ∧ (l.length ≤ c5 ∧ l.length ≤ maxN ∧ (l = [] ∨ ∃ b o, A5 = some ⟨b, o, none⟩ ∧ ok b ∧ Rc.KL w ok b l o))
def Rc.KL (w : World) (ok : Nat → Prop) (b : Nat) : List Rc → Nat → Prop
  | [], _ => True
  | x :: xs, o => (∃ cs, Rc.K w ok x cs ∧ ∀ j u, cs[j]? = some u → w.cell? ⟨b, o + j, none⟩ = some u) ∧ Rc.KL w ok b xs (o + 6)
end
mutual
theorem Rc.K_step {w w' : World} {ok ok' : Nat → Prop} (hs : ∀ k, ok k → ok' k ∧ w'.heap[k]? = w.heap[k]?) : ∀ (x : Rc) {cs : List Value}, Rc.K w ok x cs → Rc.K w' ok' x cs
  | .mk kind set by_ read write l, cs, h => by
    simp only [Rc.K] at h ⊢
    obtain ⟨A1, c1, A3, c3, A4, c4, A5, c5, rfl, i1, i2, ⟨l1, g1⟩, ⟨l3, g3⟩, ⟨l4, g4⟩, l5, m5, g5⟩ := h
    refine ⟨A1, c1, A3, c3, A4, c4, A5, c5, rfl, i1, i2, ⟨l1, g1.step hs⟩, ⟨l3, g3.step hs⟩, ⟨l4, g4.step hs⟩, l5, m5, ?_⟩
    rcases g5 with g5 | ⟨b, o, hA, hb, hc⟩
    · exact .inl g5
    · exact .inr ⟨b, o, hA, (hs b hb).1, Rc.KL_step hs b hb l hc⟩
theorem Rc.KL_step {w w' : World} {ok ok' : Nat → Prop} (hs : ∀ k, ok k → ok' k ∧ w'.heap[k]? = w.heap[k]?) (b : Nat) (hb : ok b) : ∀ (l : List Rc) {o : Nat}, Rc.KL w ok b l o → Rc.KL w' ok' b l o
  | [], _, _ => by simp only [Rc.KL]
  | x :: xs, o, h => by
    simp only [Rc.KL] at h ⊢
    obtain ⟨⟨cs, hK, hc⟩, h⟩ := h
    refine ⟨⟨cs, Rc.K_step hs x hK, fun j u hu => ?_⟩, Rc.KL_step hs b hb xs h⟩
    rw [World.cell?_of_block (w := w) (w' := w') (hs b hb).2]
    exact hc j u hu
end
def kRc : Kd Rc where
  sz := 6
  K w ok x cs := Rc.K w ok x cs
  len {w ok x cs} h := by cases x; simp only [Rc.K] at h; obtain ⟨A1, c1, A3, c3, A4, c4, A5, c5, rfl, _⟩ := h; rfl
  step {w w' ok ok' x cs} hs h := Rc.K_step hs x h
  one {w ok x cs} h := by
    cases x; simp only [Rc.K] at h; obtain ⟨A1, c1, A3, c3, A4, c4, A5, c5, rfl, _⟩ := h
    intro u hu; simp at hu; rcases hu with rfl | rfl | rfl | rfl | rfl | rfl <;> rfl
theorem Rc.KL_iff (w : World) (ok : Nat → Prop) (b : Nat) : ∀ (l : List Rc) (o : Nat), Rc.KL w ok b l o ↔ ∀ i (h : i < l.length), kRc.At w ok b (o + i * 6) l[i]
  | [], o => by simp [Rc.KL]
  | x :: xs, o => by
    simp only [Rc.KL, Rc.KL_iff w ok b xs]
    constructor
    · rintro ⟨h0, h⟩ i hi
      cases i with
      | zero => exact (by simpa using h0 : ∃ cs, Rc.K w ok x cs ∧ ∀ (j : Nat) (u : Value), cs[j]? = some u → w.cell? { block := b, off := o + 0 * 6 + j } = some u)
      | succ i =>
        have := h i (by simpa using hi)
        rw [show o + 6 + i * 6 = o + (i + 1) * 6 by omega] at this
        simpa using this
    · intro h
      refine ⟨(by have := h 0 (by simp); rwa [Nat.zero_mul, Nat.add_zero] at this : kRc.At w ok b o x), fun i hi => ?_⟩
      have := h (i + 1) (by simpa using hi)
      rw [show o + (i + 1) * 6 = o + 6 + i * 6 by omega] at this
      simpa using this
/-- A recipe's six cells. -/
theorem kRc_iff {w : World} {ok : Nat → Prop} {kind by_ : Int} {set : List Sp} {read write : List Int} {l : List Rc} {cs : List Value} : kRc.K w ok (.mk kind set by_ read write l) cs ↔
    ∃ A1 c1 A3 c3 A4 c4 A5 c5, cs = [.int .i64 kind, .slice A1 set.length c1, .int .i64 by_, .slice A3 read.length c3, .slice A4 write.length c4, .slice A5 l.length c5] ∧ I64 kind ∧ I64 by_ ∧
      (set.length ≤ c1 ∧ kSp.C w ok A1 set) ∧ (read.length ≤ c3 ∧ kRune.C w ok A3 read) ∧ (write.length ≤ c4 ∧ kRune.C w ok A4 write) ∧ (l.length ≤ c5 ∧ kRc.C w ok A5 l) := by
  show Rc.K w ok _ cs ↔ _
  simp only [Rc.K, Kd.C, Rc.KL_iff]
  exact Iff.rfl

/-! a row of the call's own -/
inductive All2 {β γ : Type} (R : β → γ → Prop) : List β → List γ → Prop where
  | nil : All2 R [] []
  | cons {a b l m} : R a b → All2 R l m → All2 R (a :: l) (b :: m)
def Kd.Own (d : Kd α) (N : Nat → Prop) (W : World) (base e : Nat) (v : Value) (xs : List α) : Prop :=
  ∃ css, W.ownsRow base e d.sz v xs.length css.flatten ∧ All2 (fun x cs => d.K W (fun k => k < W.heap.size ∧ some k ≠ v.ownBlock ∧ N k) x cs) xs css
theorem Kd.Own.nil (d : Kd α) (N : Nat → Prop) (W : World) (base e : Nat) : d.Own N W base e (.slice none 0 0) [] := ⟨[], World.ownsRow_nil _ _ _ _, .nil⟩
theorem all2_imp {β γ : Type} {R S : β → γ → Prop} {l : List β} {m : List γ} (h : ∀ a b, R a b → S a b) (hl : All2 R l m) : All2 S l m := by
  induction hl with
  | nil => exact .nil
  | cons hr _ ih => exact .cons (h _ _ hr) ih
theorem Kd.Own.kept {d : Kd α} {N : Nat → Prop} {W W' : World} {base e : Nat} {v : Value} {xs : List α} (h : d.Own N W base e v xs) {row : Option Nat} (hg : W.grownBy W' row) (hne : v.ownBlock = none ∨ v.ownBlock ≠ row)
    (hin : row = none ∨ ∀ x cs, d.K W (fun k => k < W.heap.size ∧ some k ≠ v.ownBlock ∧ N k) x cs → d.K W (fun k => k < W.heap.size ∧ some k ≠ v.ownBlock ∧ some k ≠ row ∧ N k) x cs) : d.Own N W' base e v xs := by
  obtain ⟨css, h1, h2⟩ := h
  refine ⟨css, h1.kept hg hne, all2_imp (fun x cs hK => ?_) h2⟩
  rcases hin with rfl | hin
  · exact d.step (fun k hk => ⟨⟨Nat.lt_of_lt_of_le hk.1 hg.size, hk.2⟩, hg.block k hk.1 (by simp)⟩) hK
  · exact d.step (fun k hk => ⟨⟨Nat.lt_of_lt_of_le hk.1 hg.size, hk.2.1, hk.2.2.2⟩, hg.block k hk.1 hk.2.2.1⟩) (hin x cs hK)
theorem Kd.Own.keep {d : Kd α} {N : Nat → Prop} {W W' : World} {base e : Nat} {v : Value} {xs : List α} (h : d.Own N W base e v xs) (hg : W.grownBy W' none) : d.Own N W' base e v xs := h.kept hg (by cases v.ownBlock <;> simp) (.inl rfl)
theorem flatten_at {β : Type} (sz : Nat) : ∀ (css : List (List β)) (_ : ∀ c ∈ css, c.length = sz) (i : Nat) (hi : i < css.length) (j : Nat) (_ : j < sz), css.flatten[i * sz + j]? = (css[i])[j]?
  | [], _, i, hi, _, _ => by simp at hi
  | c :: css, hl, i, hi, j, hj => by
    have hc : c.length = sz := hl c (by simp)
    cases i with
    | zero => simp [List.getElem?_append_left (show j < c.length by omega)]
    | succ i =>
      have := flatten_at sz css (fun c hc => hl c (by simp [hc])) i (by simpa using hi) j hj
      rw [List.flatten_cons, List.getElem?_append_right (by rw [hc, Nat.succ_mul]; omega), hc, show (i + 1) * sz + j - sz = i * sz + j by rw [Nat.succ_mul]; omega, this]
      simp
theorem all2_len {β γ : Type} {R : β → γ → Prop} {l : List β} {m : List γ} (h : All2 R l m) : l.length = m.length := by
  induction h with
  | nil => rfl
  | cons _ _ ih => simp [ih]
theorem all2_at {β γ : Type} {R : β → γ → Prop} {l : List β} {m : List γ} (h : All2 R l m) : ∀ i (h1 : i < l.length) (h2 : i < m.length), R l[i] m[i] := by
  induction h with
  | nil => intro i h1; simp at h1
  | cons hr _ ih =>
    intro i h1 h2
    cases i with
    | zero => simpa using hr
    | succ i => simpa using ih i (by simpa using h1) (by simpa using h2)
theorem Kd.css_len {d : Kd α} {w : World} {ok : Nat → Prop} {xs : List α} {css : List (List Value)} (h : All2 (fun x cs => d.K w ok x cs) xs css) : ∀ c ∈ css, c.length = d.sz := by
  induction h with
  | nil => simp
  | cons hr _ ih => intro c hc; rcases List.mem_cons.1 hc with rfl | hc; exact d.len hr; exact ih c hc
theorem Kd.css_one {d : Kd α} {w : World} {ok : Nat → Prop} {xs : List α} {css : List (List Value)} (h : All2 (fun x cs => d.K w ok x cs) xs css) : ∀ c ∈ css, ∀ u ∈ c, u.oneCell' = true := by
  induction h with
  | nil => simp
  | cons hr _ ih => intro c hc; rcases List.mem_cons.1 hc with rfl | hc; exact d.one hr; exact ih c hc
theorem add_plain2 (b o j : Nat) : (⟨b, o, none⟩ : Addr).add j = ⟨b, o + j, none⟩ := by unfold Addr.add; split <;> simp_all
theorem add_plain' (g j : Nat) : (⟨g, 0, none⟩ : Addr).add j = ⟨g, j, none⟩ := by unfold Addr.add; split <;> simp_all
/-- What is owned reads as a list. -/
theorem Kd.Own.reads {d : Kd α} {N : Nat → Prop} {W : World} {base e : Nat} {v : Value} {xs : List α} (hm : xs.length ≤ maxN) (h : d.Own N W base e v xs) : ∃ A c, v = .slice A xs.length c ∧ xs.length ≤ c ∧ d.C W (live W) A xs := by
  obtain ⟨css, h1, h2⟩ := h
  have hl := all2_len h2
  have h1' := h1
  rcases h1.2 with ⟨rfl, hn⟩ | ⟨g, cap, cur, rfl, hb, hh, hnc, hcm, hcs, ht⟩
  · obtain rfl : xs = [] := List.eq_nil_of_length_eq_zero hn
    exact ⟨none, 0, rfl, Nat.le_refl _, Nat.zero_le _, .inl rfl⟩
  · refine ⟨_, cap, rfl, hnc, hm, .inr ⟨g, 0, rfl, (Array.getElem?_eq_some_iff.1 hh).1, fun i hi => ?_⟩⟩
    have hK := all2_at h2 i hi (hl ▸ hi)
    refine ⟨_, d.step (fun k hk => ⟨hk.1, rfl⟩) hK, fun j u hu => ?_⟩
    have hjl : j < d.sz := by have := (List.getElem?_eq_some_iff.1 hu).1; rwa [d.len hK] at this
    have hc := h1'.cells (g := g) rfl (i * d.sz + j) u (by rw [flatten_at d.sz css (Kd.css_len h2) i (hl ▸ hi) j hjl]; exact hu)
    rw [add_plain'] at hc
    simpa using hc
/-- An element at hand. -/
theorem Kd.C.at_ {d : Kd α} {w : World} {ok : Nat → Prop} {A : Option Addr} {xs : List α} (h : d.C w ok A xs) (k : Nat) (hk : k < xs.length) :
    ∃ b o x, A = some ⟨b, o, none⟩ ∧ ok b ∧ d.At w ok b (o + k * d.sz) x ∧ xs[k]? = some x ∧ Hid (xs.drop k = x :: xs.drop (k + 1)) := by
  rcases h.2 with rfl | ⟨b, o, hA, hb, hc⟩
  · simp at hk
  · exact ⟨b, o, xs[k], hA, hb, hc k hk, List.getElem?_eq_getElem hk, List.drop_eq_getElem_cons hk⟩
theorem Kd.C.rune {w : World} {ok : Nat → Prop} {A : Option Addr} {xs : List Int} (h : kRune.C w ok A xs) (k : Nat) (hk : k < xs.length) :
    ∃ b o x, A = some ⟨b, o, none⟩ ∧ ok b ∧ w.cell? ⟨b, o + k, none⟩ = some (.int .i32 x) ∧ I32 x ∧ xs[k]? = some x ∧ Hid (xs.drop k = x :: xs.drop (k + 1)) := by
  obtain ⟨b, o, x, hA, hb, ⟨cs, ⟨rfl, hx⟩, hc⟩, h1, h2⟩ := h.at_ k hk
  have := hc 0 _ rfl
  exact ⟨b, o, x, hA, hb, by simpa [Kd.int] using this, hx, h1, h2⟩
theorem Kd.C.sp {w : World} {ok : Nat → Prop} {A : Option Addr} {xs : List Sp} (h : kSp.C w ok A xs) (k : Nat) (hk : k < xs.length) :
    ∃ b o x, A = some ⟨b, o, none⟩ ∧ ok b ∧ w.cell? ⟨b, o + k * 2, none⟩ = some (.int .i64 x.lo) ∧ w.cell? ⟨b, o + k * 2 + 1, none⟩ = some (.int .i64 x.hi) ∧ I64 x.lo ∧ I64 x.hi ∧ xs[k]? = some x ∧ Hid (xs.drop k = x :: xs.drop (k + 1)) := by
  obtain ⟨b, o, x, hA, hb, ⟨cs, ⟨rfl, h1, h2⟩, hc⟩, h3, h4⟩ := h.at_ k hk
  exact ⟨b, o, x, hA, hb, hc 0 _ rfl, hc 1 _ rfl, h1, h2, h3, h4⟩
theorem grown_drewN (w : World) (n : Nat) (row : Option Nat) : w.grownBy (w.drewN n) row := ⟨rfl, rfl, rfl, Nat.le_refl _, fun _ _ _ => rfl⟩
theorem grown_setCell (w : World) (a : Addr) (u : Value) : w.grownBy (w.setCell a u) (some a.block) :=
  ⟨rfl, rfl, rfl, by simp [World.setCell], fun k _ hk => Below.heap_setCell _ _ _ _ (fun e => hk (by rw [e]))⟩
theorem grown_any {w w' : World} (h : w.grownBy w' none) (row : Option Nat) : w.grownBy w' row := ⟨h.os, h.tape, h.output, h.size, fun k hk _ => h.block k hk (by simp)⟩
/-- A new block of cells reads as a list. -/
theorem Kd.C_lit (d : Kd α) (w : World) (cs : Array Value) (e : TypeId) (fr : Nat × Nat) (xs : List α) (css : List (List Value)) (hcs : cs.toList = css.flatten) (hK : All2 (fun x c => d.K w (live w) x c) xs css) (hm : xs.length ≤ maxN) :
    d.C (w.alloc (.cells cs e fr)) (live (w.alloc (.cells cs e fr))) (some ⟨w.heap.size, 0, none⟩) xs := by
  have hg : w.grownBy (w.alloc (.cells cs e fr)) none := World.grownBy_alloc _ _ _
  refine ⟨hm, .inr ⟨w.heap.size, 0, rfl, by simp [live], fun i hi => ?_⟩⟩
  have hl := all2_len hK
  have h1 := all2_at hK i hi (hl ▸ hi)
  refine ⟨_, d.step (live_step hg) h1, fun j u hu => ?_⟩
  have hj : j < d.sz := by have := (List.getElem?_eq_some_iff.1 hu).1; rwa [d.len h1] at this
  have := flatten_at d.sz css (Kd.css_len hK) i (hl ▸ hi) j hj
  rw [hu, ← hcs] at this
  rw [World.cell?]
  simp only [heap_alloc_new]
  simp at this ⊢
  exact this
/-! appending -/
theorem grown_own {w0 W w1 : World} {row0 row : Option Nat} (h : w0.grownBy W row0) (hg : W.grownBy w1 row) (hr : ∀ k, row = some k → w0.heap.size ≤ k) : w0.grownBy w1 row0 :=
  ⟨hg.os.trans h.os, hg.tape.trans h.tape, hg.output.trans h.output, Nat.le_trans h.size hg.size, fun k hk hne => (hg.block k (Nat.lt_of_lt_of_le hk h.size) (fun e => by have := hr k e.symm; omega)).trans (h.block k hk hne)⟩
theorem all2_snoc {β γ : Type} {R : β → γ → Prop} {l : List β} {m : List γ} {a : β} {b : γ} (h : All2 R l m) (hr : R a b) : All2 R (l ++ [a]) (m ++ [b]) := by
  induction h with
  | nil => exact .cons hr .nil
  | cons h0 _ ih => exact .cons h0 ih
theorem all2_append {β γ : Type} {R : β → γ → Prop} {l l' : List β} {m m' : List γ} (h : All2 R l m) (h' : All2 R l' m') : All2 R (l ++ l') (m ++ m') := by
  induction h with
  | nil => exact h'
  | cons h0 _ ih => exact .cons h0 ih
theorem Kd.Own.base {d : Kd α} {N : Nat → Prop} {W : World} {base e : Nat} {v : Value} {xs : List α} (h : d.Own N W base e v xs) (k : Nat) (hk : v.ownBlock = some k) : base ≤ k ∧ k < W.heap.size := by
  obtain ⟨css, h1, _⟩ := h
  exact h1.lt k hk
section
variable {P : Program} {ops : Array Oper} {rest : List Oper} {o : Oper} {a : Act} {Q : Exit → Act → World → Prop}
/-- 'append(v, y)', the element in a new block of its own. -/
theorem wp_app (d : Kd α) {N : Nat → Prop} {w0 W : World} {row0 : Option Nat} (base : Nat) (hgd : o.guard = none) (s x : Operand) (t e : TypeId) (z : Value) (bytes : Nat)
    (ho : o.op = .call { callee := .builtin .append, args := #[s, x], argTypes := #[t, t] })
    (ht : P.underlying t = some (.slice e)) (hinfo : (P.info? e).map (fun i => (i.zero, i.size, i.bytes)) = some (some z, d.sz, bytes)) (hz : z.cells.size = d.sz) (hpos : 0 < d.sz ∧ 0 < bytes)
    (v : Value) (xs : List α) (y : α) (cs : Array Value) (hs : a.eval s = v) (hx : a.eval x = .slice (some ⟨W.heap.size, 0, none⟩) 1 1)
    (HO : d.Own N W base e v xs) (HY : d.K W (fun k => k < W.heap.size ∧ some k ≠ v.ownBlock ∧ N k) y cs.toList) (HB : w0.grownBy W row0) (hbase : w0.heap.size ≤ base ∧ base ≤ W.heap.size)
    (hl : (xs.length + 1) * bytes ≤ 140737488355328)
    (h : ∀ v1 w1, d.Own N w1 base e v1 (xs ++ [y]) → w0.grownBy w1 row0 → W.grownBy w1 v.ownBlock → wpList P ops Q rest (a.put o.dst v1) w1) :
    wpList P ops Q (o :: rest) a (W.alloc (.cells cs e)) := by
  obtain ⟨i0, hi, hz0, hz1, hz2⟩ := info_parts hinfo
  have hlen : xs.length + 1 ≤ 140737488355328 := Nat.le_trans (Nat.le_mul_of_pos_right _ hpos.2) hl
  have hb := HO.base
  obtain ⟨css, h1, h2⟩ := HO
  have hcl : cs.toList.length = d.sz := d.len HY
  refine wpList_append_own_at (W.alloc (.cells cs e)) hgd s x t ho base e i0 z d.sz bytes ht hi hz0 hz1 hz2 hz hpos.1 v xs.length _ hs (h1.alloc _) ⟨W.heap.size, 0, none⟩ 1 1 cs.toList hx (by rw [hcl]; omega)
    (World.news_of_block (cs := cs) (t := e) (fr := (0, 0)) (heap_alloc_new W _)) (d.one HY) (by simp only [maxLen]; omega) hl (by simp; omega) ?_
  intro v1 w1 hown hg _ hat
  have hg1 : W.grownBy w1 v.ownBlock := (World.grownBy_alloc W _ _).trans hg
  have hstep : ∀ k, (k < W.heap.size ∧ some k ≠ v.ownBlock ∧ N k) → (k < w1.heap.size ∧ some k ≠ v1.ownBlock ∧ N k) ∧ w1.heap[k]? = W.heap[k]? := by
    intro k hk
    refine ⟨⟨Nat.lt_of_lt_of_le hk.1 hg1.size, ?_, hk.2.2⟩, hg1.block k hk.1 hk.2.1⟩
    rcases hat with hat | hat
    · rw [hat]; exact hk.2.1
    · rw [hat]
      intro he
      have : k = W.heap.size + 1 := by simpa using he
      omega
  refine h v1 w1 ⟨css ++ [cs.toList], ?_, ?_⟩ (grown_own HB hg1 fun k hk => by have := hb k hk; omega) hg1
  · rw [List.flatten_append]
    simpa using hown
  · exact all2_snoc (all2_imp (fun x c hK => d.step hstep hK) h2) (d.step hstep HY)
/-- The same, the block's number spelt otherwise. -/
theorem wp_appn (d : Kd α) {N : Nat → Prop} {w0 W : World} {row0 : Option Nat} (base : Nat) (hgd : o.guard = none) (s x : Operand) (t e : TypeId) (z : Value) (bytes : Nat)
    (ho : o.op = .call { callee := .builtin .append, args := #[s, x], argTypes := #[t, t] })
    (ht : P.underlying t = some (.slice e)) (hinfo : (P.info? e).map (fun i => (i.zero, i.size, i.bytes)) = some (some z, d.sz, bytes)) (hz : z.cells.size = d.sz) (hpos : 0 < d.sz ∧ 0 < bytes)
    (v : Value) (xs : List α) (y : α) (cs : Array Value) (hs : a.eval s = v) (nb : Nat) (hnb : W.heap.size = nb) (hx : a.eval x = .slice (some ⟨nb, 0, none⟩) 1 1)
    (HO : d.Own N W base e v xs) (HY : d.K W (fun k => k < W.heap.size ∧ some k ≠ v.ownBlock ∧ N k) y cs.toList) (HB : w0.grownBy W row0) (hbase : w0.heap.size ≤ base ∧ base ≤ W.heap.size)
    (hl : (xs.length + 1) * bytes ≤ 140737488355328)
    (h : ∀ v1 w1, d.Own N w1 base e v1 (xs ++ [y]) → w0.grownBy w1 row0 → W.grownBy w1 v.ownBlock → wpList P ops Q rest (a.put o.dst v1) w1) :
    wpList P ops Q (o :: rest) a (W.alloc (.cells cs e)) := by
  subst hnb
  exact wp_app d base hgd s x t e z bytes ho ht hinfo hz hpos v xs y cs hs hx HO HY HB hbase hl h
/-- 'append(v, ys...)'. -/
theorem wp_apps (d : Kd α) {N : Nat → Prop} {w0 W : World} {row0 : Option Nat} (base : Nat) (hgd : o.guard = none) (s x : Operand) (t e : TypeId) (z : Value) (bytes : Nat)
    (ho : o.op = .call { callee := .builtin .append, args := #[s, x], argTypes := #[t, t] })
    (ht : P.underlying t = some (.slice e)) (hinfo : (P.info? e).map (fun i => (i.zero, i.size, i.bytes)) = some (some z, d.sz, bytes)) (hz : z.cells.size = d.sz) (hpos : 0 < d.sz ∧ 0 < bytes)
    (v : Value) (xs ys : List α) (b oo m c : Nat) (hs : a.eval s = v) (hx : a.eval x = .slice (some ⟨b, oo, none⟩) m c) (hm : m = ys.length)
    (HO : d.Own N W base e v xs) (HY : ∀ i (h : i < ys.length), d.At W (fun k => k < W.heap.size ∧ some k ≠ v.ownBlock ∧ N k) b (oo + i * d.sz) ys[i]) (HB : w0.grownBy W row0) (hbase : w0.heap.size ≤ base ∧ base ≤ W.heap.size)
    (hl : (xs.length + ys.length) * bytes ≤ 140737488355328)
    (h : ∀ v1 w1, d.Own N w1 base e v1 (xs ++ ys) → w0.grownBy w1 row0 → W.grownBy w1 v.ownBlock → wpList P ops Q rest (a.put o.dst v1) w1) :
    wpList P ops Q (o :: rest) a W := by
  obtain ⟨i0, hi, hz0, hz1, hz2⟩ := info_parts hinfo
  have hlen : xs.length + ys.length ≤ 140737488355328 := Nat.le_trans (Nat.le_mul_of_pos_right _ hpos.2) hl
  have hb := HO.base
  obtain ⟨css, h1, h2⟩ := HO
  subst hm
  have hex : ∀ (l : List α) (o1 : Nat), (∀ i (h : i < l.length), d.At W (fun k => k < W.heap.size ∧ some k ≠ v.ownBlock ∧ N k) b (o1 + i * d.sz) l[i]) →
      ∃ dss : List (List Value), All2 (fun x c => d.K W (fun k => k < W.heap.size ∧ some k ≠ v.ownBlock ∧ N k) x c) l dss ∧ ∀ j u, dss.flatten[j]? = some u → W.cell? ⟨b, o1 + j, none⟩ = some u := by
    intro l
    induction l with
    | nil => intro o1 _; exact ⟨[], .nil, fun j u hu => by simp at hu⟩
    | cons y l ih =>
      intro o1 hat
      obtain ⟨cs, hK, hc⟩ := hat 0 (by simp)
      have hcl := d.len hK
      obtain ⟨dss, h3, h4⟩ := ih (o1 + d.sz) (fun i hi => by
        have := hat (i + 1) (by simpa using hi)
        rw [show o1 + (i + 1) * d.sz = o1 + d.sz + i * d.sz by rw [Nat.succ_mul]; omega] at this
        simpa using this)
      refine ⟨cs :: dss, .cons (by simpa using hK) h3, fun j u hu => ?_⟩
      rw [List.flatten_cons] at hu
      by_cases hj : j < d.sz
      · rw [List.getElem?_append_left (by omega)] at hu
        have := hc j u hu
        simpa using this
      · rw [List.getElem?_append_right (by omega), hcl] at hu
        have := h4 _ u hu
        rwa [show o1 + d.sz + (j - d.sz) = o1 + j by omega] at this
  obtain ⟨dss, h3, h4⟩ := hex ys oo HY
  have hfl : dss.flatten.length = ys.length * d.sz := by
    have hlen3 := all2_len h3
    have hcl := Kd.css_len h3
    rw [hlen3]
    clear h3 h4 hlen3
    induction dss with
    | nil => simp
    | cons c dss ih =>
      have := ih (fun c hc => hcl c (by simp [hc]))
      rw [List.flatten_cons, List.length_append, hcl c (by simp), this, List.length_cons, Nat.succ_mul]
      omega
  have hone : ∀ u ∈ dss.flatten, u.oneCell' = true := by
    intro u hu
    obtain ⟨c, hc, hu⟩ := List.mem_flatten.1 hu
    exact Kd.css_one h3 c hc u hu
  refine wpList_append_own_at W hgd s x t ho base e i0 z d.sz bytes ht hi hz0 hz1 hz2 hz hpos.1 v xs.length _ hs h1 ⟨b, oo, none⟩ ys.length c dss.flatten hx hfl
    (fun j u hu => by rw [add_plain2]; exact h4 j u hu) hone (by simp only [maxLen]; omega) hl hbase.2 ?_
  intro v1 w1 hown hg1 _ hat
  have hstep : ∀ k, (k < W.heap.size ∧ some k ≠ v.ownBlock ∧ N k) → (k < w1.heap.size ∧ some k ≠ v1.ownBlock ∧ N k) ∧ w1.heap[k]? = W.heap[k]? := by
    intro k hk
    refine ⟨⟨Nat.lt_of_lt_of_le hk.1 hg1.size, ?_, hk.2.2⟩, hg1.block k hk.1 hk.2.1⟩
    rcases hat with hat | hat
    · rw [hat]; exact hk.2.1
    · rw [hat]
      intro he
      have : k = W.heap.size := by simpa using he
      omega
  refine h v1 w1 ⟨css ++ dss, ?_, ?_⟩ (grown_own HB hg1 fun k hk => by have := hb k hk; omega) hg1
  · rw [List.flatten_append, List.length_append]
    exact hown
  · exact all2_append (all2_imp (fun x c hK => d.step hstep hK) h2) (all2_imp (fun x c hK => d.step hstep hK) h3)
end
/-- A kind that reaches no memory. -/
def Kd.Plain (d : Kd α) : Prop := ∀ w w' ok ok' x cs, d.K w ok x cs → d.K w' ok' x cs
theorem plain_int (k : IntKind) (p : Int → Prop) : (Kd.int k p).Plain := fun _ _ _ _ _ _ h => h
theorem plain_sp : kSp.Plain := fun _ _ _ _ _ _ h => h
theorem Kd.Own.keptP {d : Kd α} {N : Nat → Prop} (hd : d.Plain) {W W' : World} {base e : Nat} {v : Value} {xs : List α} (h : d.Own N W base e v xs) {row : Option Nat} (hg : W.grownBy W' row) (hne : ∀ k, row = some k → k < base) : d.Own N W' base e v xs := by
  refine h.kept hg ?_ (.inr fun x cs hK => hd _ _ _ _ _ _ hK)
  cases hv : v.ownBlock with
  | none => exact .inl rfl
  | some k =>
    refine .inr fun e => ?_
    have := h.base k hv
    have := hne k e.symm
    omega
theorem Kd.Own.readsP {d : Kd α} {N : Nat → Prop} (hd : d.Plain) {W : World} {base e : Nat} {v : Value} {xs : List α} (ok : Nat → Prop) (hok : ∀ k, base ≤ k → k < W.heap.size → ok k) (hm : xs.length ≤ maxN) (h : d.Own N W base e v xs) : ∃ A c, v = .slice A xs.length c ∧ xs.length ≤ c ∧ d.C W ok A xs := by
  obtain ⟨A, c, rfl, hc, h1, h2⟩ := h.reads hm
  refine ⟨A, c, rfl, hc, h1, ?_⟩
  rcases h2 with h2 | ⟨b, o, rfl, hb, hat⟩
  · exact .inl h2
  · refine .inr ⟨b, o, rfl, hok b (h.base b rfl).1 hb, fun i hi => ?_⟩
    obtain ⟨cs, hK, hcs⟩ := hat i hi
    exact ⟨cs, hd _ _ _ _ _ _ hK, hcs⟩
theorem one_new (w : World) (o : Obj) : ∃ W, w.alloc o = W ∧ W.heap[w.heap.size]? = some o ∧ w.grownBy W none ∧ W.heap.size = w.heap.size + 1 :=
  ⟨_, rfl, heap_alloc_new _ _, World.grownBy_alloc _ _ _, by simp⟩
theorem two_new (w : World) (o1 o2 : Obj) : ∃ W, (w.alloc o1).alloc o2 = W ∧ W.heap[w.heap.size]? = some o1 ∧ W.heap[w.heap.size + 1]? = some o2 ∧ w.grownBy W none ∧ W.heap.size = w.heap.size + 2 := by
  refine ⟨_, rfl, ?_, ?_, (World.grownBy_alloc _ _ _).trans (World.grownBy_alloc _ _ _), by simp⟩
  · have h := (World.grownBy_alloc (w.alloc o1) o2 none).block w.heap.size (by simp) (by simp)
    rw [h]; exact heap_alloc_new _ _
  · have h := heap_alloc_new (w.alloc o1) o2
    simpa using h
/-- A block of cells, known whole. -/
theorem cells_at {w : World} {b : Nat} {cs : Array Value} {e : TypeId} (h : w.heap[b]? = some (.cells cs e (0, 0))) (j : Nat) : w.cell? ⟨b, j, none⟩ = cs[j]? ∧ w.frozen? ⟨b, j, none⟩ = false := by
  constructor <;> simp [World.cell?, World.frozen?, h]
theorem cells_set {w : World} {b : Nat} {cs : Array Value} {e : TypeId} (h : w.heap[b]? = some (.cells cs e (0, 0))) (j : Nat) (v : Value) : (w.setCell ⟨b, j, none⟩ v).heap[b]? = some (.cells (cs.setIfInBounds j v) e (0, 0)) := by
  simp [World.setCell, Array.getElem?_modify, h]
theorem cells_other {w : World} {b b' : Nat} {o : Option Obj} (h : w.heap[b]? = o) (j : Nat) (v : Value) (hne : b ≠ b') : (w.setCell ⟨b', j, none⟩ v).heap[b]? = o := by
  rw [Below.heap_setCell _ _ _ _ hne]; exact h
theorem put6 {w : World} {b : Nat} {e : TypeId} {a0 a1 a2 a3 a4 a5 : Value} (h : w.heap[b]? = some (.cells #[a0, a1, a2, a3, a4, a5] e (0, 0))) (v0 v1 v2 v3 v4 v5 : Value) :
    ∃ W, (((((w.setCell ⟨b, 0, none⟩ v0).setCell ⟨b, 1, none⟩ v1).setCell ⟨b, 2, none⟩ v2).setCell ⟨b, 3, none⟩ v3).setCell ⟨b, 4, none⟩ v4).setCell ⟨b, 5, none⟩ v5 = W ∧ W.heap[b]? = some (.cells #[v0, v1, v2, v3, v4, v5] e (0, 0)) ∧ w.grownBy W (some b) := by
  refine ⟨_, rfl, ?_, ?_⟩
  · exact cells_set (cells_set (cells_set (cells_set (cells_set (cells_set h 0 v0) 1 v1) 2 v2) 3 v3) 4 v4) 5 v5
  · exact (((((grown_setCell w ⟨b, 0, none⟩ v0).trans (grown_setCell _ ⟨b, 1, none⟩ v1)).trans (grown_setCell _ ⟨b, 2, none⟩ v2)).trans (grown_setCell _ ⟨b, 3, none⟩ v3)).trans (grown_setCell _ ⟨b, 4, none⟩ v4)).trans (grown_setCell _ ⟨b, 5, none⟩ v5)
theorem Kd.C_nil (d : Kd α) (w : World) (ok : Nat → Prop) (A : Option Addr) : d.C w ok A [] := ⟨Nat.zero_le _, .inl rfl⟩
def mxI (x y : Int) : Int := if x < y then y else x
def mnI (x y : Int) : Int := if y < x then y else x
theorem max_rule (ats : Array TypeId) (ty : TypeId) (k k' : IntKind) (x y : Int) : Builtin.max_ ats ty #[.int k x, .int k' y] = pure (.int k (mxI x y)) := by
  simp only [Builtin.max_, List.foldlM_cons, List.foldlM_nil, Builtin.max2, gt_iff_lt, mxI]; rfl
theorem min_rule (ats : Array TypeId) (ty : TypeId) (k k' : IntKind) (x y : Int) : Builtin.min_ ats ty #[.int k x, .int k' y] = pure (.int k (mnI x y)) := by
  simp only [Builtin.min_, List.foldlM_cons, List.foldlM_nil, Builtin.min2, mnI]; rfl
theorem grown_drew {w w' : World} {row : Option Nat} (h : w.grownBy w' row) : w.grownBy w'.drew row := ⟨h.os, h.tape, h.output, h.size, h.block⟩
end Go.Proofs.YtocfmjiollafaaaGreatDoor
