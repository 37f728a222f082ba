import Derived.Laws.Cover4
namespace Go.Proofs.YtocfmjiollafaaaGreatDoor
set_option linter.unusedSimpArgs false
set_option linter.unusedVariables false
theorem get_at (s : ByteArray) (i : Nat) : s.get! i = s.data.toList.getD i 0 := by
  show s.data[i]! = _
  rw [Array.getElem!_eq_getD, List.getD_eq_getElem?_getD, Array.getElem?_toList, Array.getD_eq_getD_getElem?]
  rfl
theorem encode_list (x : Int) (h : Utf8.valid x = true) : (Utf8.encode x).data.toList =
    (if x.toNat < 0x80 then [UInt8.ofNat x.toNat] else if x.toNat < 0x800 then [UInt8.ofNat (0xC0 + x.toNat / 64), UInt8.ofNat (0x80 + x.toNat % 64)]
    else if x.toNat < 0x10000 then [UInt8.ofNat (0xE0 + x.toNat / 4096), UInt8.ofNat (0x80 + x.toNat / 64 % 64), UInt8.ofNat (0x80 + x.toNat % 64)]
    else [UInt8.ofNat (0xF0 + x.toNat / 262144), UInt8.ofNat (0x80 + x.toNat / 4096 % 64), UInt8.ofNat (0x80 + x.toNat / 64 % 64), UInt8.ofNat (0x80 + x.toNat % 64)]) := by
  unfold Utf8.encode
  simp only [h, if_true]
  split
  · rfl
  · split
    · rfl
    · split <;> rfl
theorem decode_at (s : ByteArray) (x : Int) (h : Utf8.valid x = true) (pre post : List UInt8) (hs : s.data.toList = pre ++ (Utf8.encode x).data.toList ++ post) :
    Utf8.decode s pre.length = (x.toNat, (Utf8.encode x).data.toList.length) := by
  have hsz : s.size = pre.length + (Utf8.encode x).data.toList.length + post.length := by
    have := congrArg List.length hs
    simpa [Nat.add_assoc] using this
  have hg : ∀ k (hk : k < (Utf8.encode x).data.toList.length), s.get! (pre.length + k) = (Utf8.encode x).data.toList[k] := by
    intro k hk
    rw [get_at, hs, List.append_assoc, List.getD_eq_getElem?_getD, List.getElem?_append_right (by omega), Nat.add_sub_cancel_left, List.getElem?_append_left hk, List.getElem?_eq_getElem hk]
    rfl
  have hx : 0 ≤ x ∧ x ≤ 1114111 ∧ (x < 55296 ∨ 57344 ≤ x) := by
    simp [Utf8.valid] at h; omega
  have hL := encode_list x h
  generalize (Utf8.encode x).data.toList = L at hL hg hsz
  generalize hn : x.toNat = n at hL
  have hxn : x = (n : Int) := by omega
  subst hxn
  unfold Utf8.decode
  have h255 : ∀ m, m < 256 → (UInt8.ofNat m).toNat = m := fun m hm => by simp; omega
  by_cases h1 : n < 0x80
  · rw [if_pos h1] at hL; subst hL
    have g0 := hg 0 (by simp)
    simp only [List.getElem_cons_zero, Nat.add_zero] at g0
    simp only [Nat.add_zero, g0]
    rw [h255 n (by omega)]
    simp [h1]
  · rw [if_neg h1] at hL
    by_cases h2 : n < 0x800
    · rw [if_pos h2] at hL; subst hL
      have g0 := hg 0 (by simp)
      have g1 := hg 1 (by simp)
      simp at hsz
      simp only [List.getElem_cons_zero, List.getElem_cons_succ, Nat.add_zero] at g0 g1
      simp only [Nat.add_zero, g0, g1]
      rw [h255 _ (by omega), h255 _ (by omega)]
      have hsz1 : pre.length + 1 < s.size := by omega
      have a1 : ¬ (192 + n / 64 < 128) := by omega
      have a2 : (192 + n / 64) / 32 = 6 := by omega
      have a3 : (128 + n % 64) / 64 = 2 := by omega
      have a4 : (192 + n / 64) % 32 * 64 + (128 + n % 64) % 64 = n := by omega
      have a5 : n ≥ 128 := by omega
      generalize 192 + n / 64 = b0 at a1 a2 a4 ⊢
      generalize 128 + n % 64 = b1 at a3 a4 ⊢
      simp [a1, a2, a3, a4, a5, hsz1]
    · rw [if_neg h2] at hL
      by_cases h3 : n < 0x10000
      · rw [if_pos h3] at hL; subst hL
        have g0 := hg 0 (by simp)
        have g1 := hg 1 (by simp)
        have g2 := hg 2 (by simp)
        simp at hsz
        simp only [List.getElem_cons_zero, List.getElem_cons_succ, Nat.add_zero] at g0 g1 g2
        simp only [Nat.add_zero, g0, g1, g2]
        rw [h255 _ (by omega), h255 _ (by omega), h255 _ (by omega)]
        have hsz1 : pre.length + 1 < s.size := by omega
        have hsz2 : pre.length + 2 < s.size := by omega
        have a1 : ¬ (224 + n / 4096 < 128) := by omega
        have a2 : (224 + n / 4096) / 16 = 14 := by omega
        have a2' : ¬ (224 + n / 4096) / 32 = 6 := by omega
        have a3 : (128 + n / 64 % 64) / 64 = 2 := by omega
        have a3' : (128 + n % 64) / 64 = 2 := by omega
        have a4 : (224 + n / 4096) % 16 * 4096 + (128 + n / 64 % 64) % 64 * 64 + (128 + n % 64) % 64 = n := by omega
        have a5 : n ≥ 0x800 := by omega
        generalize 224 + n / 4096 = b0 at a1 a2 a2' a4 ⊢
        generalize 128 + n / 64 % 64 = b1 at a3 a4 ⊢
        generalize 128 + n % 64 = b2 at a3' a4 ⊢
        simp only [a1, a2, a3, a3', a4, a5, hsz1, hsz2, h]
        simp [a2']
      · rw [if_neg h3] at hL; subst hL
        have g0 := hg 0 (by simp)
        have g1 := hg 1 (by simp)
        have g2 := hg 2 (by simp)
        have g3 := hg 3 (by simp)
        simp at hsz
        simp only [List.getElem_cons_zero, List.getElem_cons_succ, Nat.add_zero] at g0 g1 g2 g3
        simp only [Nat.add_zero, g0, g1, g2, g3]
        rw [h255 _ (by omega), h255 _ (by omega), h255 _ (by omega), h255 _ (by omega)]
        have hsz1 : pre.length + 1 < s.size := by omega
        have hsz2 : pre.length + 2 < s.size := by omega
        have hsz3 : pre.length + 3 < s.size := by omega
        have a1 : ¬ (240 + n / 262144 < 128) := by omega
        have a2 : (240 + n / 262144) / 8 = 30 := by omega
        have a2' : ¬ (240 + n / 262144) / 32 = 6 := by omega
        have a2'' : ¬ (240 + n / 262144) / 16 = 14 := by omega
        have a3 : (128 + n / 4096 % 64) / 64 = 2 := by omega
        have a3' : (128 + n / 64 % 64) / 64 = 2 := by omega
        have a3'' : (128 + n % 64) / 64 = 2 := by omega
        have a4 : (240 + n / 262144) % 8 * 262144 + (128 + n / 4096 % 64) % 64 * 4096 + (128 + n / 64 % 64) % 64 * 64 + (128 + n % 64) % 64 = n := by omega
        have a5 : n ≥ 0x10000 := by omega
        generalize 240 + n / 262144 = b0 at a1 a2 a2' a2'' a4 ⊢
        generalize 128 + n / 4096 % 64 = b1 at a3 a4 ⊢
        generalize 128 + n / 64 % 64 = b2 at a3' a4 ⊢
        generalize 128 + n % 64 = b3 at a3'' a4 ⊢
        simp only [a1, a2, a3, a3', a3'', a4, a5, hsz1, hsz2, hsz3, h]
        simp [a2', a2'']

theorem runesBytes_foldl (l : List Int) (s : ByteArray) : (l.foldl (fun r n => r ++ Utf8.encode n) s).data.toList = s.data.toList ++ l.flatMap fun x => (Utf8.encode x).data.toList := by
  induction l generalizing s with
  | nil => simp
  | cons x l ih => rw [List.foldl_cons, ih]; simp
theorem runesBytes_list (l : List Int) : (runesBytes l).data.toList = l.flatMap fun x => (Utf8.encode x).data.toList := by
  unfold runesBytes
  rw [runesBytes_foldl]; simp
