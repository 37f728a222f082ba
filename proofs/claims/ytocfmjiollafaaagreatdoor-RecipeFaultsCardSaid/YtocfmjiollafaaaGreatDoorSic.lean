import Derived.Test.YtocfmjiollafaaaGreatDoorSib
namespace Go.Proofs.YtocfmjiollafaaaGreatDoor
open Go.RowKit
set_option linter.unusedVariables false
set_option linter.unusedSimpArgs false
def Outc {α : Type} (t s : Nat) (r : Pr α) (r' : Option (Pr α)) : Prop := r' = some (r.sh s) ∨ (t = 1 ∧ ∃ q, r' = some (.bad q))
theorem map_fin {α β : Type} (f : α → β) (r : Pr α) : (r.map f).fin = r.fin := by cases r <;> rfl
theorem map_ok {α β : Type} (f : α → β) (r : Pr α) : (r.map f).isOk = r.isOk := by cases r <;> rfl
theorem map_sh {α β : Type} (f : α → β) (s : Nat) (r : Pr α) : (r.map f).sh s = (r.sh s).map f := by cases r <;> rfl
section
variable {m : Bool} {s t : Nat} {l l' : List Int}
theorem ok_false {α : Type} {j : Nat} (h : m = true → (Pr.bad j : Pr α).isOk = true) : m = false := by
  cases m with
  | false => rfl
  | true => have := h rfl; simp [Pr.isOk] at this
theorem atomM_sim {alt alt' : Nat → Nat → Option (Pr Rc)} {d : Nat} (htm : t = 1 → m = true) (ht : t ≤ 1)
    (HA : d + 1 + t ≤ 64 → ∀ i r, alt i (d + 1) = some r → Sm m s l l' r.fin → (m = true → r.isOk = true) → r.fin ≤ l'.length → Outc t s r (alt' (i + s) (d + 1 + t)) )
    (HL : ∀ i r, alt i (d + 1) = some r → i ≤ r.fin) (hd : d + t ≤ 64)
    {i : Nat} {r : Pr Atm} (hr : atomM alt l i d = some r) (h : Sm m s l l' r.fin) (hm : m = true → r.isOk = true) (hl : r.fin ≤ l'.length) (hi : i ≤ r.fin) : Outc t s r (atomM alt' l' (i + s) (d + t)) := by
  unfold atomM at hr ⊢
  have t40 := h.test hi 40 (by decide) (by decide)
  have t46 := h.test hi 46 (by decide) (by decide)
  have t91 := h.test hi 91 (by decide) (by decide)
  have t123 := h.test hi 123 (by decide) (by decide)
  by_cases h40 : sym l i = 40
  · rw [if_pos h40] at hr
    rw [if_pos (t40.2 h40)]
    by_cases h64 : d = 64
    · rw [if_pos h64] at hr
      cases hr
      have hmf := ok_false hm
      have ht0 : t = 0 := by
        have : t ≠ 1 := fun e => by rw [htm e] at hmf; cases hmf
        omega
      rw [if_pos (by omega)]
      exact .inl rfl
    · rw [if_neg h64] at hr
      by_cases h64' : d + t = 64
      · rw [if_pos h64']
        exact .inr ⟨by omega, _, rfl⟩
      · rw [if_neg h64']
        cases ha : alt (i + 1) (d + 1) with
        | none => rw [ha] at hr; cases hr
        | some p =>
          rw [ha] at hr
          have HL' := HL _ _ ha
          rw [show i + s + 1 = i + 1 + s by omega, show d + t + 1 = d + 1 + t by omega]
          cases p with
          | bad j =>
            cases hr
            rcases HA (by omega) _ _ ha h hm hl with e | ⟨ht1, q, e⟩
            · rw [e]; exact .inl rfl
            · rw [e]; exact .inr ⟨ht1, q, rfl⟩
          | ok n j =>
            simp only at hr
            have hj : j ≤ r.fin := by split at hr <;> cases hr <;> simp [Pr.fin]
            rcases HA (by omega) _ _ ha (h.mono hj) (fun _ => rfl) (by simp [Pr.fin]; omega) with e | ⟨ht1, q, e⟩
            · rw [e]
              simp only [Pr.sh]
              by_cases h41 : sym l j = 41
              · rw [if_pos h41] at hr; cases hr
                rw [if_pos (by rw [h.at_ hj (by omega)]; exact h41)]
                left; simp [Pr.sh]; omega
              · rw [if_neg h41] at hr; cases hr
                have hmf := ok_false hm
                have e2 := (h j hj).resolve_right (by rw [hmf]; simp)
                rw [if_neg (by rw [e2]; exact h41)]
                exact .inl rfl
            · rw [e]; exact .inr ⟨ht1, q, rfl⟩
  · rw [if_neg h40] at hr
    rw [if_neg (fun e => h40 (t40.1 e))]
    by_cases h46 : sym l i = 46
    · rw [if_pos h46] at hr
      rw [if_pos (t46.2 h46)]
      cases hr
      rw [map_fin] at h; rw [map_ok] at hm
      rw [show i + s + 1 = i + 1 + s by omega, (behindM_sim h hm).1]
      exact .inl (by rw [map_sh])
    · rw [if_neg h46] at hr
      rw [if_neg (fun e => h46 (t46.1 e))]
      by_cases h91 : sym l i = 91
      · rw [if_pos h91] at hr
        rw [if_pos (t91.2 h91)]
        cases hc : classM (l.length + 1) l (i + 1) with
        | none => rw [hc] at hr; cases hr
        | some p =>
          rw [hc] at hr
          cases hr
          rw [map_fin] at h hl; rw [map_ok] at hm
          have := (classM_sim (s := s) (l' := l') hc h hm (l'.length + 1) (by omega)).1
          rw [show i + s + 1 = i + 1 + s by omega, this]
          exact .inl (by rw [Option.map_some, map_sh])
      · rw [if_neg h91] at hr
        rw [if_neg (fun e => h91 (t91.1 e))]
        by_cases h123 : sym l i = 123
        · rw [if_pos h123] at hr
          rw [if_pos (t123.2 h123)]
          cases hc : pairM l (i + 1) with
          | none => rw [hc] at hr; cases hr
          | some p =>
            rw [hc] at hr
            cases hr
            rw [map_fin] at h hl; rw [map_ok] at hm
            have := (pairM_sim (s := s) (l' := l') hc h hm hl).1
            rw [show i + s + 1 = i + 1 + s by omega, this]
            exact .inl (by rw [Option.map_some, map_sh])
        · rw [if_neg h123] at hr
          rw [if_neg (fun e => h123 (t123.1 e))]
          cases hr
          rw [map_fin] at h; rw [map_ok] at hm
          rw [(letterM_sim (h.mono (Pr.red_le _)) hm).1]
          exact .inl (by rw [map_sh])
end
/-- an atom's reader goes on -/
theorem atomM_lt {alt : Nat → Nat → Option (Pr Rc)} {l : List Int} {d i : Nat} {r : Pr Atm} (HL : ∀ i r, alt i (d + 1) = some r → i ≤ r.fin) (hr : atomM alt l i d = some r) : i ≤ r.fin ∧ ∀ a j, r = .ok a j → i < j := by
  unfold atomM at hr
  by_cases h40 : sym l i = 40
  · rw [if_pos h40] at hr
    by_cases h64 : d = 64
    · rw [if_pos h64] at hr; cases hr
      exact ⟨Nat.le_refl _, fun a j e => by cases e⟩
    · rw [if_neg h64] at hr
      cases ha : alt (i + 1) (d + 1) with
      | none => rw [ha] at hr; cases hr
      | some p =>
        rw [ha] at hr
        have HL' := HL _ _ ha
        cases p with
        | bad j => cases hr; simp [Pr.fin] at HL' ⊢; omega
        | ok n j =>
          simp only at hr
          simp [Pr.fin] at HL'
          split at hr
          · cases hr; refine ⟨by simp [Pr.fin]; omega, fun a j e => by cases e; omega⟩
          · cases hr; refine ⟨by simp [Pr.fin]; omega, fun a j e => by cases e⟩
  · rw [if_neg h40] at hr
    by_cases h46 : sym l i = 46
    · rw [if_pos h46] at hr; cases hr
      have := (@behindM_sim false 0 l l (i + 1) allS (fun k _ => .inl rfl) (by simp)).2
      refine ⟨by rw [map_fin]; omega, fun a j e => ?_⟩
      cases hb : behindM l (i + 1) allS with
      | bad q => rw [hb] at e; cases e
      | ok x q => rw [hb] at e this; cases e; simp [Pr.fin] at this; omega
    · rw [if_neg h46] at hr
      by_cases h91 : sym l i = 91
      · rw [if_pos h91] at hr
        cases hc : classM (l.length + 1) l (i + 1) with
        | none => rw [hc] at hr; cases hr
        | some p =>
          rw [hc] at hr; cases hr
          have hle : i + 1 ≤ p.fin := by
            unfold classM at hc
            cases hp : rangesM (l.length + 1) l (if sym l (i + 1) = 94 then i + 1 + 1 else i + 1) [] with
            | none => rw [hp] at hc; cases hc
            | some q =>
              rw [hp] at hc
              have h1 := rangesM_le _ hp
              have h2 := classE_le (l := l) (not := sym l (i + 1) == 94) q
              have h3 : classE l (sym l (i + 1) == 94) q = p := Option.some.inj hc
              rw [h3] at h2
              split at h1 <;> omega
          refine ⟨by rw [map_fin]; omega, fun a j e => ?_⟩
          cases p with
          | bad q => cases e
          | ok x q => cases e; simp [Pr.fin] at hle; omega
      · rw [if_neg h91] at hr
        by_cases h123 : sym l i = 123
        · rw [if_pos h123] at hr
          cases hc : pairM l (i + 1) with
          | none => rw [hc] at hr; cases hr
          | some p =>
            rw [hc] at hr; cases hr
            have hle : i + 1 ≤ p.fin := by
              unfold pairM at hc
              cases h1 : lettersM (l.length + 1) l (i + 1) [] with
              | none => rw [h1] at hc; cases hc
              | some q =>
                rw [h1] at hc
                have hle1 := lettersM_le _ h1
                cases q with
                | bad j => cases hc; exact hle1
                | ok a j =>
                  simp only at hc
                  simp [Pr.fin] at hle1
                  by_cases h62 : sym l j = 62
                  · rw [if_pos h62] at hc
                    cases h2 : lettersM (l.length + 1) l (j + 1) [] with
                    | none => rw [h2] at hc; cases hc
                    | some p2 =>
                      rw [h2] at hc
                      have hle2 := lettersM_le _ h2
                      cases p2 with
                      | bad q => cases hc; simp [Pr.fin] at hle2 ⊢; omega
                      | ok b q =>
                        simp only at hc
                        simp [Pr.fin] at hle2
                        split at hc <;> cases hc <;> simp [Pr.fin] <;> omega
                  · rw [if_neg h62] at hc; cases hc; exact hle1
            refine ⟨by rw [map_fin]; omega, fun a j e => ?_⟩
            cases p with
            | bad q => cases e
            | ok x q => cases e; simp [Pr.fin] at hle; omega
        · rw [if_neg h123] at hr; cases hr
          have hle := letterM_le l true i
          refine ⟨by rw [map_fin]; have := Pr.red_le (letterM l true i); omega, fun a j e => ?_⟩
          cases hb : letterM l true i with
          | bad q => rw [hb] at e; cases e
          | ok x q => rw [hb] at e; cases e; exact letterM_lt hb
section
variable {m : Bool} {s t : Nat} {l l' : List Int}
theorem rowG_le {atom : Nat → Option (Pr Atm)} (HL : ∀ i r, atom i = some r → i ≤ r.fin ∧ ∀ a j, r = .ok a j → i < j) : ∀ (k : Nat) {i : Nat} {acc : List Rc} {r : Pr Rc}, rowG atom l k i acc = some r → i ≤ r.fin
  | 0, i, acc, r, h => by simp [rowG] at h
  | k + 1, i, acc, r, h => by
    rw [rowG] at h
    split at h
    · cases h; exact Nat.le_refl _
    · cases ha : atom i with
      | none => rw [ha] at h; cases h
      | some p =>
        rw [ha] at h
        have hle := HL _ _ ha
        cases p with
        | bad j => cases h; exact hle.1
        | ok a j =>
          simp only at h
          have := rowG_le HL k h
          have := starsM_le (l := l) l.length j a.rc
          have := hle.2 a j rfl
          omega
theorem rowG_sim {atom atom' : Nat → Option (Pr Atm)} (HL : ∀ i r, atom i = some r → i ≤ r.fin ∧ ∀ a j, r = .ok a j → i < j)
    (HA : ∀ i r, atom i = some r → Sm m s l l' r.fin → (m = true → r.isOk = true) → r.fin ≤ l'.length → Outc t s r (atom' (i + s))) :
    ∀ (k : Nat) {i : Nat} {acc : List Rc} {r : Pr Rc}, rowG atom l k i acc = some r → Sm m s l l' r.fin → (m = true → r.isOk = true) → r.fin ≤ l'.length → ∀ k', r.fin - i < k' → Outc t s r (rowG atom' l' k' (i + s) acc)
  | 0, i, acc, r, h, _, _, _, _, _ => by simp [rowG] at h
  | k + 1, i, acc, r, h, hs, hm, hl, k', hk' => by
    have hle := rowG_le HL (k + 1) h
    obtain ⟨k2, rfl⟩ : ∃ k2, k' = k2 + 1 := ⟨k' - 1, by omega⟩
    rw [rowG] at h ⊢
    by_cases he : sym l i = -1 ∨ sym l i = 124 ∨ sym l i = 41
    · rw [if_pos he] at h
      cases h
      have he' : sym l' (i + s) = -1 ∨ sym l' (i + s) = 124 ∨ sym l' (i + s) = 41 := by
        rcases hs i (Nat.le_refl _) with e | ⟨_, _, e⟩
        · rw [e]; exact he
        · rw [e]; exact .inr (.inr rfl)
      rw [if_pos he']
      exact .inl rfl
    · rw [if_neg he] at h
      have e := hs.at_ hle (fun e => he (.inl e))
      rw [if_neg (by rw [e]; exact he)]
      cases ha : atom i with
      | none => rw [ha] at h; cases h
      | some p =>
        rw [ha] at h
        have hlt := HL _ _ ha
        cases p with
        | bad j =>
          cases h
          rcases HA _ _ ha hs hm hl with e | ⟨ht1, q, e⟩
          · rw [e]; exact .inl rfl
          · rw [e]; exact .inr ⟨ht1, q, rfl⟩
        | ok a j =>
          simp only at h
          have h1 := rowG_le HL k h
          have h2 := starsM_le (l := l) l.length j a.rc
          have h3 := hlt.2 a j rfl
          rcases HA _ _ ha (hs.mono (by show j ≤ r.fin; omega)) (fun _ => rfl) (by show j ≤ l'.length; omega) with e | ⟨ht1, q, e⟩
          · rw [e]
            simp only [Pr.sh]
            rw [starsM_sim (s := s) (l' := l') l.length j a.rc (by omega) (hs.mono h1) l'.length (by omega)]
            exact rowG_sim HL HA k h hs hm hl k2 (by omega)
          · rw [e]; exact .inr ⟨ht1, q, rfl⟩
theorem altG_le {row : Nat → Option (Pr Rc)} (HL : ∀ i r, row i = some r → i ≤ r.fin) : ∀ (k : Nat) {i : Nat} {acc : List Rc} {r : Pr Rc}, altG row l k i acc = some r → i ≤ r.fin
  | 0, i, acc, r, h => by simp [altG] at h
  | k + 1, i, acc, r, h => by
    rw [altG] at h
    cases ha : row i with
    | none => rw [ha] at h; cases h
    | some p =>
      rw [ha] at h
      have hle := HL _ _ ha
      cases p with
      | bad j => cases h; exact hle
      | ok x j =>
        simp only at h
        simp [Pr.fin] at hle
        split at h
        · have := altG_le HL k h; omega
        · cases h; simp [Pr.fin]; omega
theorem altG_sim {row row' : Nat → Option (Pr Rc)} (HL : ∀ i r, row i = some r → i ≤ r.fin)
    (HA : ∀ i r, row i = some r → Sm m s l l' r.fin → (m = true → r.isOk = true) → r.fin ≤ l'.length → Outc t s r (row' (i + s))) :
    ∀ (k : Nat) {i : Nat} {acc : List Rc} {r : Pr Rc}, altG row l k i acc = some r → Sm m s l l' r.fin → (m = true → r.isOk = true) → r.fin ≤ l'.length → ∀ k', r.fin - i < k' → Outc t s r (altG row' l' k' (i + s) acc)
  | 0, i, acc, r, h, _, _, _, _, _ => by simp [altG] at h
  | k + 1, i, acc, r, h, hs, hm, hl, k', hk' => by
    obtain ⟨k2, rfl⟩ : ∃ k2, k' = k2 + 1 := ⟨k' - 1, by omega⟩
    rw [altG] at h ⊢
    cases ha : row i with
    | none => rw [ha] at h; cases h
    | some p =>
      rw [ha] at h
      have hle := HL _ _ ha
      cases p with
      | bad j =>
        cases h
        rcases HA _ _ ha hs hm hl with e | ⟨ht1, q, e⟩
        · rw [e]; exact .inl rfl
        · rw [e]; exact .inr ⟨ht1, q, rfl⟩
      | ok x j =>
        simp only at h
        simp [Pr.fin] at hle
        have hj : j ≤ r.fin := by
          split at h
          · have := altG_le HL k h; omega
          · cases h; exact Nat.le_refl _
        rcases HA _ _ ha (hs.mono hj) (fun _ => rfl) (by simp [Pr.fin]; omega) with e | ⟨ht1, q, e⟩
        · rw [e]
          simp only [Pr.sh]
          have t124 := hs.test hj 124 (by decide) (by decide)
          by_cases h124 : sym l j = 124
          · rw [if_pos h124] at h
            have := altG_le HL k h
            rw [if_pos (t124.2 h124), show j + s + 1 = j + 1 + s by omega]
            exact altG_sim HL HA k h hs hm hl k2 (by omega)
          · rw [if_neg h124] at h; cases h
            rw [if_neg (fun e => h124 (t124.1 e))]
            exact .inl rfl
        · rw [e]; exact .inr ⟨ht1, q, rfl⟩
theorem altM_le (l : List Int) : ∀ (k : Nat) {i d : Nat} {r : Pr Rc}, altM k l i d = some r → i ≤ r.fin
  | 0, i, d, r, h => by simp [altM] at h
  | k + 1, i, d, r, h => by
    rw [altM] at h
    exact altG_le (fun i r h => rowG_le (fun i r h => atomM_lt (fun i r h => altM_le l k h) h) (l.length + 1) h) (l.length + 1) h
theorem altM_sim (htm : t = 1 → m = true) (ht : t ≤ 1) : ∀ (k : Nat) {i d : Nat} {r : Pr Rc}, altM k l i d = some r → k + d = 65 → d + t ≤ 64 → Sm m s l l' r.fin → (m = true → r.isOk = true) → r.fin ≤ l'.length → Outc t s r (altM (k - t) l' (i + s) (d + t))
  | 0, i, d, r, h, _, _, _, _, _ => by simp [altM] at h
  | k + 1, i, d, r, h, hk, hd, hs, hm, hl => by
    obtain ⟨k2, hk2⟩ : ∃ k2, k + 1 - t = k2 + 1 := ⟨k - t, by omega⟩
    rw [hk2, altM]
    rw [altM] at h
    have hle := altM_le l (k + 1) (by rw [altM]; exact h)
    refine altG_sim (fun i r h => rowG_le (fun i r h => atomM_lt (fun i r h => altM_le l k h) h) (l.length + 1) h) (fun i1 r1 h1 hs1 hm1 hl1 => ?_) (l.length + 1) h hs hm hl (l'.length + 1) (by omega)
    have hle1 := rowG_le (fun i r h => atomM_lt (fun i r h => altM_le l k h) h) (l.length + 1) h1
    refine rowG_sim (fun i r h => atomM_lt (fun i r h => altM_le l k h) h) (fun i2 r2 h2 hs2 hm2 hl2 => ?_) (l.length + 1) h1 hs1 hm1 hl1 (l'.length + 1) (by omega)
    have hle2 := (atomM_lt (fun i r h => altM_le l k h) h2).1
    refine atomM_sim htm ht (fun hd' i3 r3 h3 hs3 hm3 hl3 => ?_) (fun i r h => altM_le l k h) hd h2 hs2 hm2 hl2 hle2
    have := altM_sim htm ht k h3 (by omega) hd' hs3 hm3 hl3
    rwa [show k - t = k2 by omega] at this
end
/-- P25.1: what stands ahead of a fault's place is the same fault, whatever stands behind it -/
theorem parse_front {l : List Int} {p x : Nat} {c : Int} {more : List Int} (h : parseM l = some (.bad p)) (hp : p < l.length) : parseM (l.take (p + 1) ++ c :: more) = some (.bad p) := by
  have hS : Sm false 0 l (l.take (p + 1) ++ c :: more) p := fun k hk => by
    left
    rw [Nat.add_zero]
    unfold sym
    rw [List.getD_eq_getElem?_getD, List.getD_eq_getElem?_getD, List.getElem?_append_left (by simp; omega), List.getElem?_take, if_pos (by omega)]
    rfl
  have hlen : p ≤ (l.take (p + 1) ++ c :: more).length := by simp; omega
  generalize l.take (p + 1) ++ c :: more = l' at hS hlen
  unfold parseM at h ⊢
  cases ha : altM 65 l 0 0 with
  | none => rw [ha] at h; cases h
  | some r =>
    rw [ha] at h
    have hsim := fun hs hl => altM_sim (m := false) (s := 0) (t := 0) (l' := l') (by simp) (by decide) 65 ha (by decide) (by decide) hs (by simp) hl
    cases r with
    | bad j =>
      cases h
      rcases hsim hS hlen with e | ⟨e, _⟩
      · rw [show 65 - 0 = 65 from rfl, show 0 + 0 = 0 from rfl] at e; rw [e]; rfl
      · cases e
    | ok n j =>
      simp only at h
      have hj : j = p := by split at h <;> cases h; rfl
      subst hj
      rcases hsim hS hlen with e | ⟨e, _⟩
      · rw [show 65 - 0 = 65 from rfl, show 0 + 0 = 0 from rfl] at e
        rw [e]
        simp only [Pr.sh, Nat.add_zero]
        have e2 := (hS j (Nat.le_refl _)).resolve_right (by simp)
        rw [Nat.add_zero] at e2
        split at h
        · cases h
        · rename_i hne; rw [if_neg (by rw [e2]; exact hne)]
      · cases e
end Go.Proofs.YtocfmjiollafaaaGreatDoor
