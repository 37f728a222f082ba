import Derived.Test.YtocfmjiollafaaaGreatDoorTxt
namespace Go.Proofs.YtocfmjiollafaaaGreatDoor
open Go.RowKit
set_option linter.unusedVariables false
set_option linter.unusedSimpArgs false
/-! the symbols of texts put together -/
theorem getB_app (p s q : ByteArray) (i : Nat) (h : i < s.size) : (p ++ s ++ q).get! (p.size + i) = s.get! i := by
  rw [get_at, get_at]
  have e : (p ++ s ++ q).data.toList = p.data.toList ++ s.data.toList ++ q.data.toList := by simp
  rw [e, List.append_assoc, List.getD_eq_getElem?_getD, List.getElem?_append_right (by simp), List.getD_eq_getElem?_getD, List.getElem?_append_left (by simp; omega)]
  congr 2; simp
theorem size_app (p s q : ByteArray) : (p ++ s ++ q).size = p.size + s.size + q.size := by simp
/-- nothing that goes on stands at the begin -/
def noCont (q : ByteArray) : Prop := contB q 0 = false
theorem contB_app (p s q : ByteArray) (hq : noCont q) (i : Nat) (h : i ≤ s.size) : contB (p ++ s ++ q) (p.size + i) = contB s i := by
  unfold contB
  by_cases hi : i < s.size
  · rw [getB_app p s q i hi, size_app]
    have h1 : (decide (p.size + i < p.size + s.size + q.size)) = true := by simp; omega
    have h2 : (decide (i < s.size)) = true := by simpa using hi
    rw [h1, h2]
  · have h2 : (decide (i < s.size)) = false := by simpa using hi
    rw [h2]
    have hi' : i = s.size := by omega
    subst hi'
    have hq' := hq
    unfold noCont contB at hq'
    have e : (p ++ s ++ q).get! (p.size + s.size) = q.get! 0 := by
      rw [get_at, get_at]
      have e : (p ++ s ++ q).data.toList = (p.data.toList ++ s.data.toList) ++ q.data.toList := by simp
      rw [e, List.getD_eq_getElem?_getD, List.getElem?_append_right (by simp), List.getD_eq_getElem?_getD]
      congr 2; simp
    rw [e, size_app]
    by_cases h0 : 0 < q.size
    · have h3 : (decide (0 < q.size)) = true := by simpa using h0
      rw [h3] at hq'
      simp only [Bool.true_and] at hq'
      rw [hq']; simp
    · have h4 : (decide (p.size + s.size < p.size + s.size + q.size)) = false := decide_eq_false (by omega)
      rw [h4]; rfl
theorem dec_cong {b0 b1 b2 b3 c1 c2 c3 : Nat} {k1 k2 k3 m2 m3 : Bool} (h1 : k1 = true → b1 = c1 ∧ k2 = m2) (h2 : k1 = true → k2 = true → b2 = c2 ∧ k3 = m3) (h3 : k1 = true → k2 = true → k3 = true → b3 = c3) :
    dec b0 b1 b2 b3 k1 k2 k3 = dec b0 c1 c2 c3 k1 m2 m3 := by
  unfold dec
  cases k1 with
  | false => simp
  | true =>
    obtain ⟨rfl, rfl⟩ := h1 rfl
    cases k2 with
    | false => simp
    | true =>
      obtain ⟨rfl, rfl⟩ := h2 rfl rfl
      cases k3 with
      | false => simp
      | true => obtain rfl := h3 rfl rfl rfl; rfl
theorem contB_lt {s : ByteArray} {i : Nat} (h : contB s i = true) : i < s.size := by unfold contB at h; simp at h; exact h.1
theorem decode_app (p s q : ByteArray) (hq : noCont q) (i : Nat) (h : i < s.size) : Utf8.decode (p ++ s ++ q) (p.size + i) = Utf8.decode s i := by
  rw [decode_dec, decode_dec, getB_app p s q i h, Nat.add_assoc, Nat.add_assoc, Nat.add_assoc, contB_app p s q hq (i + 1) (by omega)]
  refine dec_cong (fun k1 => ?_) (fun k1 k2 => ?_) (fun k1 k2 k3 => ?_)
  · have := contB_lt k1
    exact ⟨by rw [getB_app p s q (i + 1) this], contB_app p s q hq (i + 2) (by omega)⟩
  · have h1 := contB_lt k1
    rw [contB_app p s q hq (i + 2) (by omega)] at k2
    have := contB_lt k2
    exact ⟨by rw [getB_app p s q (i + 2) this], contB_app p s q hq (i + 3) (by omega)⟩
  · have h1 := contB_lt k1
    rw [contB_app p s q hq (i + 2) (by omega)] at k2
    have h2 := contB_lt k2
    rw [contB_app p s q hq (i + 3) (by omega)] at k3
    have h3 := contB_lt k3
    rw [getB_app p s q (i + 3) h3]
theorem decode_fits (s : ByteArray) (i : Nat) (h : i < s.size) : i + (Utf8.decode s i).2 ≤ s.size := by
  rw [decode_dec]
  unfold dec
  have c1 : contB s (i + 1) = true → i + 1 < s.size := contB_lt
  have c2 : contB s (i + 2) = true → i + 2 < s.size := contB_lt
  have c3 : contB s (i + 3) = true → i + 3 < s.size := contB_lt
  split
  · simp; omega
  · split
    · rename_i hh; simp at hh; have := c1 hh.2; split <;> simp <;> omega
    · split
      · rename_i hh; simp at hh; have := c2 hh.2; split <;> simp <;> omega
      · split
        · rename_i hh; simp at hh; have := c3 hh.2; split <;> simp <;> omega
        · simp; omega
/-- enough rounds tell the same -/
theorem runesFromL_more (s : ByteArray) : ∀ (b i b' : Nat), s.size ≤ i + b → b ≤ b' → runesFromL s b' i = runesFromL s b i
  | 0, i, b', h, _ => by
    cases b' with
    | zero => rfl
    | succ b' => rw [show runesFromL s 0 i = [] from rfl, runesFromL, if_neg (by omega)]
  | b + 1, i, b', h, hb => by
    obtain ⟨b2, rfl⟩ : ∃ b2, b' = b2 + 1 := ⟨b' - 1, by omega⟩
    rw [runesFromL, runesFromL]
    split
    · have := (decode_cases s i).1
      rw [runesFromL_more s b _ b2 (by omega) (by omega)]
    · rfl
theorem runesFromL_app (p s q : ByteArray) (hq : noCont q) : ∀ (b i b' : Nat), i ≤ s.size → s.size ≤ i + b → p.size + s.size + q.size ≤ p.size + i + b' →
    runesFromL (p ++ s ++ q) b' (p.size + i) = runesFromL s b i ++ runesFromL (p ++ s ++ q) b' (p.size + s.size)
  | 0, i, b', hi, h, hb => by
    obtain rfl : i = s.size := by omega
    rfl
  | b + 1, i, b', hi, h, hb => by
    rw [runesFromL]
    by_cases hlt : i < s.size
    · rw [if_pos hlt]
      obtain ⟨b2, rfl⟩ : ∃ b2, b' = b2 + 1 := ⟨b' - 1, by omega⟩
      rw [runesFromL, if_pos (by rw [size_app]; omega), decode_app p s q hq i hlt]
      have h1 := (decode_cases s i).1
      have h2 := decode_fits s i hlt
      have ih := runesFromL_app p s q hq b (i + (Utf8.decode s i).2) b2 h2 (by omega) (by omega)
      rw [Nat.add_assoc, ih, List.cons_append]
      congr 2
      rw [runesFromL_more (p ++ s ++ q) b2 (p.size + s.size) (b2 + 1) (by rw [size_app]; omega) (by omega)]
    · rw [if_neg hlt]
      obtain rfl : i = s.size := by omega
      rfl
/-- the symbols of a text behind a begin of its own -/
theorem runesFromL_drop (p q : ByteArray) (b b' : Nat) (h : q.size ≤ b) (h' : q.size ≤ b') : runesFromL (p ++ q) b p.size = runesFromL q b' 0 := by
  have e : p ++ q = p ++ q ++ ByteArray.empty := by simp
  have hn : noCont ByteArray.empty := by unfold noCont contB; simp
  have := runesFromL_app p q ByteArray.empty hn q.size 0 b (Nat.zero_le _) (by omega) (by simp; omega)
  rw [← e, Nat.add_zero] at this
  rw [this, runesFromL_more q q.size 0 b' (by omega) h']
  have he : runesFromL (p ++ q) b (p.size + q.size) = [] := by
    cases b with
    | zero => rfl
    | succ b => rw [runesFromL, if_neg (by simp)]
  rw [he, List.append_nil]
theorem runesOf_app (s q : ByteArray) (hq : noCont q) : runesOf (s ++ q) = runesOf s ++ runesOf q := by
  have e : ByteArray.empty ++ s ++ q = s ++ q := by simp
  have h := runesFromL_app ByteArray.empty s q hq s.size 0 (s ++ q).size (Nat.zero_le _) (by omega) (by simp)
  rw [e] at h
  simp only [ByteArray.size_empty, Nat.zero_add] at h
  unfold runesOf
  rw [h, runesFromL_drop s q (s ++ q).size q.size (by simp) (Nat.le_refl _)]
theorem fits_runesFrom (s : ByteArray) : ∀ (b i : Nat), fitsM 2 (runesFromL s b i) = true
  | 0, i => rfl
  | b + 1, i => by
    rw [runesFromL]
    split
    · have h1 := (decode_cases s i).2.2
      have h2 := fits_runesFrom s b (i + (Utf8.decode s i).2)
      unfold fitsM at h2 ⊢
      rw [List.all_cons, h1, h2]; rfl
    · rfl
theorem fits_runesOf (s : ByteArray) : fitsM 2 (runesOf s) = true := fits_runesFrom s _ _
theorem runesOf_len (s : ByteArray) : (runesOf s).length ≤ s.size := by
  have : ∀ (b i : Nat), (runesFromL s b i).length ≤ b := by
    intro b
    induction b with
    | zero => intro i; simp [runesFromL]
    | succ b ih => intro i; rw [runesFromL]; split
                   · simp; exact ih _
                   · simp
  exact this _ _
theorem noCont_41 : noCont ⟨#[41]⟩ := by unfold noCont; decide
theorem noCont_97 (q : ByteArray) : noCont (⟨#[97]⟩ ++ q) := by
  unfold noCont contB
  rw [get_at]
  have : ((⟨#[97]⟩ : ByteArray) ++ q).data.toList.getD 0 0 = 97 := by simp
  rw [this]; simp
theorem noCont_40 (q : ByteArray) : noCont (⟨#[40]⟩ ++ q) := by
  unfold noCont contB
  rw [get_at]
  have : ((⟨#[40]⟩ : ByteArray) ++ q).data.toList.getD 0 0 = 40 := by simp
  rw [this]; simp
theorem runesOf_ascii1 (c : UInt8) (hc : c.toNat < 128) (s : ByteArray) : runesOf (⟨#[c]⟩ ++ s) = (c.toNat : Int) :: runesOf s := by
  have hsz : ((⟨#[c]⟩ : ByteArray) ++ s).size = s.size + 1 := by rw [ByteArray.size_append]; show 1 + s.size = s.size + 1; omega
  unfold runesOf
  rw [hsz, runesFromL, if_pos (by omega)]
  have hd : Utf8.decode (⟨#[c]⟩ ++ s) 0 = (c.toNat, 1) := by
    rw [decode_dec]
    have : ((⟨#[c]⟩ : ByteArray) ++ s).get! 0 = c := by rw [get_at]; simp
    rw [this]; unfold dec; rw [if_pos hc]
  rw [hd]
  simp only [Nat.zero_add]
  congr 1
  have := runesFromL_drop ⟨#[c]⟩ s s.size s.size (Nat.le_refl _) (Nat.le_refl _)
  exact this
theorem runesOf_bracket (s : ByteArray) : runesOf (⟨#[40]⟩ ++ s ++ ⟨#[41]⟩) = 40 :: (runesOf s ++ [41]) := by
  rw [runesOf_app _ _ noCont_41, runesOf_ascii1 40 (by decide)]; rfl
theorem runesOf_mend (s more : ByteArray) : runesOf (s ++ ⟨#[97]⟩ ++ more) = runesOf s ++ 97 :: runesOf more := by
  rw [show s ++ ⟨#[97]⟩ ++ more = s ++ (⟨#[97]⟩ ++ more) by rw [ByteArray.append_assoc], runesOf_app _ _ (noCont_97 more), runesOf_ascii1 97 (by decide)]; rfl
end Go.Proofs.YtocfmjiollafaaaGreatDoor
