import Derived.Test.YtocfmjiollafaaaGreatDoorAtm
import Derived.Deep.LoopGhost
import Derived.Outline
namespace Go.Proofs.YtocfmjiollafaaaGreatDoor
open Go.RowKit
set_option linter.unusedVariables false
set_option linter.unusedSimpArgs false
variable {α : Type}
theorem info26 : (Tryz.prog.info? 26).map (fun i => (i.zero, i.size, i.bytes)) = some (some (.agg #[.int .i64 0, .slice none 0 0, .int .i64 0, .slice none 0 0, .slice none 0 0, .slice none 0 0]), 6, 112) := by kernel_rfl
/-- What is owned reads as a list, in memory that is new. -/
theorem Kd.Own.readsN {d : Kd α} {N : Nat → Prop} {W : World} {base e : Nat} {v : Value} {xs : List α} (hN : ∀ k, N k → base ≤ k) (hm : xs.length ≤ maxN) (h : d.Own N W base e v xs) :
    ∃ A c, v = .slice A xs.length c ∧ xs.length ≤ c ∧ d.C W (fun k => base ≤ k ∧ k < W.heap.size) A xs := by
  have hb := h.base
  obtain ⟨css, h1, h2⟩ := h
  have hl := all2_len h2
  have h1' := h1
  rcases h1.2 with ⟨rfl, hn⟩ | ⟨g, cap, cur, rfl, hb', hh, hnc, hcm, hcs, ht⟩
  · obtain rfl : xs = [] := List.eq_nil_of_length_eq_zero hn
    exact ⟨none, 0, rfl, Nat.le_refl _, Nat.zero_le _, .inl rfl⟩
  · refine ⟨_, cap, rfl, hnc, hm, .inr ⟨g, 0, rfl, hb g rfl, fun i hi => ?_⟩⟩
    have hK := all2_at h2 i hi (hl ▸ hi)
    refine ⟨_, d.step (fun k hk => ⟨⟨hN k hk.2.2, hk.1⟩, rfl⟩) hK, fun j u hu => ?_⟩
    have hjl : j < d.sz := by have := (List.getElem?_eq_some_iff.1 hu).1; rwa [d.len hK] at this
    have hc := h1'.cells (g := g) rfl (i * d.sz + j) u (by rw [flatten_at d.sz css (Kd.css_len h2) i (hl ▸ hi) j hjl]; exact hu)
    rw [add_plain'] at hc
    simpa using hc
/-- an element of a list of recipes: its six cells -/
theorem Kd.C.rcc {w : World} {ok : Nat → Prop} {A : Option Addr} {xs : List Rc} (h : kRc.C w ok A xs) (k : Nat) (hk : k < xs.length) :
    ∃ b o x kd set A1 c1 by_ r A3 c3 wt A4 c4 l A5 c5, A = some ⟨b, o, none⟩ ∧ ok b ∧ xs[k]? = some x ∧ x = Rc.mk kd set by_ r wt l ∧
      kRc.K w ok x [.int .i64 kd, .slice A1 set.length c1, .int .i64 by_, .slice A3 r.length c3, .slice A4 wt.length c4, .slice A5 l.length c5] ∧
      w.cell? ⟨b, o + k * 6, none⟩ = some (.int .i64 kd) ∧ w.cell? ⟨b, o + k * 6 + 1, none⟩ = some (.slice A1 set.length c1) ∧ w.cell? ⟨b, o + k * 6 + 2, none⟩ = some (.int .i64 by_) ∧
      w.cell? ⟨b, o + k * 6 + 3, none⟩ = some (.slice A3 r.length c3) ∧ w.cell? ⟨b, o + k * 6 + 4, none⟩ = some (.slice A4 wt.length c4) ∧ w.cell? ⟨b, o + k * 6 + 5, none⟩ = some (.slice A5 l.length c5) := by
  obtain ⟨b, o, x, hA, hb, ⟨cs, hK, hc⟩, h1, h2⟩ := h.at_ k hk
  obtain ⟨kd, set, by_, r, wt, l⟩ := x
  obtain ⟨A1, c1, A3, c3, A4, c4, A5, c5, rfl, hK'⟩ := kRc_iff.1 hK
  exact ⟨b, o, _, kd, set, A1, c1, by_, r, A3, c3, wt, A4, c4, l, A5, c5, hA, hb, h1, rfl, hK, hc 0 _ rfl, hc 1 _ rfl, hc 2 _ rfl, hc 3 _ rfl, hc 4 _ rfl, hc 5 _ rfl⟩
theorem row_ret {rb : Nat} {l : List Int} {j deep n : Nat} {w wr W6 : World} {x : Rc} {cs : List Value} (hrb : rb < w.heap.size) (hg : w.grownBy wr (some rb)) (hR : Rd rb l j deep wr) (hg7 : (wr.drewN n).grownBy W6 (some w.heap.size))
    (hK : kRc.K wr (fun k => w.heap.size + 1 ≤ k ∧ k < wr.heap.size) x cs) : RdOk rb l j deep w (RcF w x) (.returned (.agg ⟨cs⟩)) W6 := by
  refine ⟨_, rfl, ⟨_, rfl, kRc.step (fun k hk => ?_) hK⟩, (hR.drewN n).keptO hg7 (by intro k hk; cases hk; exact hrb), grown_own (hg.trans (grown_drewN _ _ _)) hg7 (by intro k hk; cases hk; exact Nat.le_refl _)⟩
  have h1 := hk.1; have h2 := hk.2
  have h3 := hg7.size
  have h4 : (wr.drewN n).heap.size = wr.heap.size := rfl
  exact ⟨⟨by omega, by omega⟩, hg7.block k h2 (by intro e; have := Option.some.inj e; omega)⟩
theorem item_any (rb : Nat) (a : Atm) (v : Value) (w0 w : World) (h : AtmF w0 a v w) (h0 : w0.heap.size ≤ w.heap.size) : Calls Tryz.prog 67 #[.pointer (some ⟨rb, 0, none⟩), v] w (fun e w' => ∃ u, e = .returned u ∧ RcF w0 a.rc u w' ∧ w.grownBy w' none) := by
  cases a with
  | lt x =>
    obtain ⟨rfl, hx⟩ := h
    refine (item_lt rb x hx w).mono ?_
    rintro e w' ⟨u, rfl, hu, hg⟩
    exact ⟨u, rfl, RcV.step (fun k hk => ⟨⟨Nat.le_trans h0 hk.1, hk.2⟩, rfl⟩) hu, hg⟩
  | nd n =>
    obtain ⟨u, rfl, hu⟩ := h
    refine (item_nd rb n u w0 w hu h0).mono ?_
    rintro e w' ⟨rfl, hu, hg⟩
    exact ⟨u, rfl, hu, hg⟩
set_option maxRecDepth 100000 in
set_option maxHeartbeats 4000000 in
theorem row_any (atomf : Nat → Option (Pr Atm)) (fuel : Nat) {rb : Nat} {l : List Int} {i deep : Nat} {w : World} {r : Pr Rc} (hfu : fuel ≤ 70000)
    (HA : ∀ i' w' r', Rd rb l i' deep w' → atomf i' = some r' → Calls Tryz.prog 68 #[.pointer (some ⟨rb, 0, none⟩)] w' (PrPost rb l deep w' (AtmF w') r'))
    (h : Rd rb l i deep w) (hr : rowG atomf l fuel i [] = some r) :
    Calls Tryz.prog 49 #[.pointer (some ⟨rb, 0, none⟩)] w (PrPost rb l deep w (RcF w) r) := by
  have hrb := h.cells.choose_spec.choose_spec.1
  have H := Lib.hid h; clear h
  obtain ⟨W, hW, hb2, hgW, hWs⟩ := one_new w zero6
  have R := Lib.hid (H.out.kept hgW)
  unfold zero6 at hW
  have HW := Lib.hid hW
  have HR := Lib.hid hr; have HAA := Lib.hid HA
  clear hW hr HA
  go_enter Tryz.func49, Tryz.ntmps49
  go_wp2_with fail
  rw [HW.out]
  go_loopg [3] fuel (fun k v wr => ∃ acc j, acc.length + k ≤ fuel ∧ Rd rb l j deep wr ∧ kRc.Own (fun k => w.heap.size + 1 ≤ k) wr (w.heap.size + 1) 26 v acc ∧ w.grownBy wr (some rb) ∧ wr.heap[w.heap.size]? = some zero6 ∧ Hid (rowG atomf l k j acc = some r))
  case atStart => exact ⟨[], i, by simp, R.out, Kd.Own.nil _ _ _ _ _, grown_any hgW _, hb2, HR.out⟩
  case round =>
    obtain ⟨acc, j, haj, hrd, HO, hg, hbz, HL⟩ := hrel
    obtain ⟨A, c, hrb2, hlc, hl, hj, hd, hC, c0, c1, c2, f1, f2⟩ := hrd.cells
    have R := Lib.hid hrd; clear hrd hC c0 c1 c2 f1 f2
    obtain ⟨g, rfl⟩ : ∃ g, gk = g + 1 := by
      cases gk with
      | zero => have := HL.out; simp [rowG] at this
      | succ g => exact ⟨g, rfl⟩
    have hrs := hg.size
    by_cases he : sym l j = -1 ∨ sym l j = 124 ∨ sym l j = 41
    · have hrr : Hid (r = .ok (oneOr kCat acc) j) := by
        have := HL.out
        rw [rowG, if_pos he] at this
        exact (Option.some.inj this).symm
      have hcs : (sym l j == -1) = true ∨ ((sym l j == -1) = false ∧ (sym l j == 124) = true) ∨ ((sym l j == -1) = false ∧ (sym l j == 124) = false ∧ (sym l j == 41) = true) := by
        simp; omega
      obtain ⟨Aa, ca, rfl, hca, hCa⟩ := HO.readsN (fun k hk => hk) (by unfold maxN; omega)
      have CA := Lib.hid hCa
      have hbz' := hbz
      unfold zero6 at hbz'
      have k0 := cells_at hbz' 0; have k1 := cells_at hbz' 1; have k2 := cells_at hbz' 2; have k3 := cells_at hbz' 3; have k4 := cells_at hbz' 4; have k5 := cells_at hbz' 5
      simp at k0 k1 k2 k3 k4 k5
      have BZ := Lib.hid hbz'
      clear he HL hCa HO hbz hbz' haj
      by_cases h1 : acc.length = 1
      · have b1 : ((acc.length : Int) == 1) = true := by simp [h1]
        obtain ⟨b, o, x, kd, set, A1, c1, by_, r', A3, c3, wt, A4, c4, l', A5, c5, rfl, hnb, hx, hxe, hK, z0, z1, z2, z3, z4, z5⟩ := CA.out.rcc 0 (by omega)
        simp only [Nat.zero_mul, Nat.add_zero] at z0 z1 z2 z3 z4 z5
        have hone : oneOr kCat acc = x := by
          obtain ⟨y, rfl⟩ := List.length_eq_one_iff.1 h1
          have : y = x := by simpa using hx
          rw [← this]; rfl
        have HX := Lib.hid hone; have HK := Lib.hid hK; have HXE := Lib.hid hxe
        have bl : (0 : Int) < (acc.length : Int) := by omega
        clear h1 hx hone hK hxe
        rcases hcs with b2 | ⟨b2, b3⟩ | ⟨b2, b3, b4⟩
        all_goals
          go_wp2_with (go_at_call 28; refine (next_any R.out).mono ?_; rintro e w' ⟨rfl, n, rfl⟩)
          refine rc_put rfl rfl rfl BZ.out fun W6 hg7 => ?_
          rw [hrr.out, HX.out]
          exact row_ret hrb hg R.out hg7 HK.out
      · have b1 : ((acc.length : Int) == 1) = false := by simp; omega
        have hone : oneOr kCat acc = kCat acc := by
          cases acc with
          | nil => rfl
          | cons y t =>
            cases t with
            | nil => simp at h1
            | cons z t => rfl
        have HX := Lib.hid hone
        clear h1 hone
        rcases hcs with b2 | ⟨b2, b3⟩ | ⟨b2, b3, b4⟩
        all_goals
          go_wp2_with (go_at_call 28; refine (next_any R.out).mono ?_; rintro e w' ⟨rfl, n, rfl⟩)
          refine rc_put rfl rfl rfl BZ.out fun W6 hg7 => ?_
          rw [hrr.out, HX.out]
          exact row_ret hrb hg R.out hg7 (kRc_iff.2 ⟨none, 0, none, 0, none, 0, Aa, ca, rfl, by decide, by decide, ⟨Nat.le_refl _, Kd.C_nil _ _ _ _⟩, ⟨Nat.le_refl _, Kd.C_nil _ _ _ _⟩, ⟨Nat.le_refl _, Kd.C_nil _ _ _ _⟩, ⟨hca, CA.out⟩⟩)
    · have b2 : (sym l j == -1) = false := by simp; omega
      have b3 : (sym l j == 124) = false := by simp; omega
      have b4 : (sym l j == 41) = false := by simp; omega
      obtain ⟨ra, hra, hre⟩ : ∃ ra, atomf j = some ra ∧ (match ra with
          | .bad j => some (Pr.bad j)
          | .ok a j => rowG atomf l g (starsM l l.length j a.rc).2 (acc ++ [(starsM l l.length j a.rc).1])) = some r := by
        have := HL.out
        rw [rowG, if_neg he] at this
        cases h : atomf j with
        | none => rw [h] at this; cases this
        | some ra => rw [h] at this; refine ⟨ra, rfl, ?_⟩; cases ra <;> exact this
      have HRA := Lib.hid hra; have HRE := Lib.hid hre
      have hca : ∀ n, Calls Tryz.prog 68 #[.pointer (some ⟨rb, 0, none⟩)] (wr.drewN n) (PrPost rb l deep (wr.drewN n) (AtmF (wr.drewN n)) ra) := fun n => HAA.out j _ ra (R.out.drewN n) HRA.out
      have HCA := Lib.hid hca
      clear he HL hra hre hca
      go_wp2_with (go_at_call 28; refine (next_any R.out).mono ?_; rintro e w' ⟨rfl, n, rfl⟩)
      cases ra with
      | bad q =>
        refine (HCA.out n).mono ?_
        rintro e w7 ⟨rfl, hg8⟩
        have hbd := Option.some.inj HRE.out
        go_wp2_with fail
        refine ⟨rfl, ?_⟩
        rw [← hbd]
        exact ⟨rfl, hg.trans ((grown_drewN _ _ _).trans hg8)⟩
      | ok a q =>
        refine (HCA.out n).mono ?_
        rintro e w7 ⟨v, rfl, hV, hR, hg8⟩
        have hgd := (grown_drewN wr n (some rb)).trans hg8
        have hs8 := hg8.size
        have hit := item_any rb a v (wr.drewN n) w7 hV hs8
        have HIT := Lib.hid hit
        have R7 := Lib.hid hR
        have hq := hR.cells.choose_spec.choose_spec.2.2.2.1
        have HO7 : kRc.Own (fun k => w.heap.size + 1 ≤ k) w7 (w.heap.size + 1) 26 u3 acc := HO.kept hgd (by
          cases hv : u3.ownBlock with
          | none => exact .inl rfl
          | some k => exact .inr (by intro e; have h1 := Option.some.inj e; have := (HO.base k hv).1; omega)) (.inr fun x cs hK => kRc.step (fun k hk => ⟨⟨hk.1, hk.2.1, by intro e; have := Option.some.inj e; have := hk.2.2; omega, hk.2.2⟩, rfl⟩) hK)
        have hbz7 := (hgd.block w.heap.size (by have := (Array.getElem?_eq_some_iff.1 hbz).1; exact this) (by intro e; have := Option.some.inj e; omega)).trans hbz
        have HO7 := Lib.hid HO7
        have hsd : (wr.drewN n).heap.size = wr.heap.size := rfl
        have hob := HO.base
        have HOB := Lib.hid hob
        have hwo := (Array.getElem?_eq_some_iff.1 hbz).1
        clear hit hV hR HO hbz hob
        go_wp2_with fail
        refine HIT.out.mono ?_
        rintro e w8 ⟨u, rfl, hu, hg9⟩
        obtain ⟨xk, A1, n1, c1', xb, A3, n3, c3, A4, n4, c4, A5, n5, c5, rfl⟩ := hu.six
        obtain ⟨W9, hW9, hb9, hgW9, hWs9⟩ := one_new w8 (.cells #[.int .i64 xk, .slice A1 n1 c1', .int .i64 xb, .slice A3 n3 c3, .slice A4 n4 c4, .slice A5 n5 c5] 26)
        have HW9 := Lib.hid hW9
        have hs9 := hg9.size
        have R9 := Lib.hid ((R7.out.kept hg9).kept hgW9)
        have HU := Lib.hid hu
        clear hu hW9
        go_wp2_with fail
        rw [HW9.out]
        obtain ⟨wo, hwo⟩ : ∃ wo : World, wo = wr := ⟨_, rfl⟩
        subst hwo
        go_loopg [24] l.length (fun k v wr2 => ∃ x j', l.length ≤ j' + k ∧ Rd rb l j' deep wr2 ∧ w8.grownBy wr2 (some rb) ∧ (∃ cs : Array Value, wr2.heap[w8.heap.size]? = some (.cells cs 26 (0, 0)) ∧ kRc.K wr2 (fun k => wo.heap.size ≤ k ∧ k < wr2.heap.size ∧ k ≠ w8.heap.size) x cs.toList) ∧ Hid (starsM l k j' x = starsM l l.length q a.rc))
        case atStart =>
          obtain ⟨cs, hce, hK⟩ := HU.out
          have hh := hgW9.size
          refine ⟨a.rc, q, by omega, R9.out, grown_any hgW9 _, ⟨_, hb9, ?_⟩, rfl⟩
          injection hce with hce
          rw [← hce] at hK
          exact kRc.step (fun k hk => by
            have h1 := hk.1; have h2 := hk.2
            exact ⟨⟨by omega, by omega, by omega⟩, hgW9.block k h2 (by simp)⟩) hK
        case round =>
          obtain ⟨x, j', hlj, hrd, hg10, ⟨cs, hbx, hK⟩, hST⟩ := hrel
          obtain ⟨xk', xs', xb', xr', xw', xl'⟩ := x
          obtain ⟨B1, d1, B3, d3, B4, d4, B5, d5, hce, hKr⟩ := kRc_iff.1 hK
          have hcs : cs = #[.int .i64 xk', .slice B1 xs'.length d1, .int .i64 xb', .slice B3 xr'.length d3, .slice B4 xw'.length d4, .slice B5 xl'.length d5] := by rw [show cs = ⟨cs.toList⟩ from rfl, hce]
          subst hcs
          have k0 := cells_at hbx 0; have k1 := cells_at hbx 1; have k2 := cells_at hbx 2; have k3 := cells_at hbx 3; have k4 := cells_at hbx 4; have k5 := cells_at hbx 5
          simp at k0 k1 k2 k3 k4 k5
          have R10 := Lib.hid hrd
          have HK := Lib.hid hK; have BX := Lib.hid hbx
          have hs10 := hg10.size
          have hrbs : rb < wr.heap.size := hrd.cells.choose_spec.choose_spec.1
          by_cases h42 : sym l j' = 42
          · have hjl := sym_lt h42 (by decide)
            obtain ⟨g2, rfl⟩ : ∃ g2, gk = g2 + 1 := ⟨gk - 1, by omega⟩
            have hST2 : Hid (starsM l g2 (j' + 1) (kMany [.mk xk' xs' xb' xr' xw' xl']) = starsM l l.length q a.rc) := by
              have := hST
              rw [starsM, if_pos h42] at this
              exact this
            have H42 := Lib.hid h42
            clear hrd hK hKr hbx h42 hST hce
            go_wp2_with fail
            refine (eat_yes R10.out 42 H42.out (by decide)).mono ?_
            rintro e w11 ⟨_, rfl, rfl, hR11, hg11⟩
            have hs11 := hg11.size
            have hbl := (Array.getElem?_eq_some_iff.1 BX.out).1
            have hb11 := (hg11.block w8.heap.size hbl (by intro e; have := Option.some.inj e; omega)).trans BX.out
            obtain ⟨W12, hW12, hb12, hgW12, hWs12⟩ := one_new w11 (.cells #[.int .i64 xk', .slice B1 xs'.length d1, .int .i64 xb', .slice B3 xr'.length d3, .slice B4 xw'.length d4, .slice B5 xl'.length d5] 26)
            have hbx12 := (hgW12.block w8.heap.size (by omega) (by simp)).trans hb11
            have m0 := cells_at hb11 0; have m1 := cells_at hb11 1; have m2 := cells_at hb11 2; have m3 := cells_at hb11 3; have m4 := cells_at hb11 4; have m5 := cells_at hb11 5
            have n0 := cells_at hbx12 0; have n1 := cells_at hbx12 1; have n2 := cells_at hbx12 2; have n3 := cells_at hbx12 3; have n4 := cells_at hbx12 4; have n5 := cells_at hbx12 5
            simp at m0 m1 m2 m3 m4 m5 n0 n1 n2 n3 n4 n5
            obtain ⟨W13, hW13, hb13, hg13⟩ := put6 hbx12 (.int .i64 6) (.slice none 0 0) (.int .i64 0) (.slice none 0 0) (.slice none 0 0) (.slice (some ⟨w11.heap.size, 0, none⟩) 1 1)
            have R12 := Lib.hid (hR11.kept hgW12)
            have HB12 := Lib.hid hb12; have HB13 := Lib.hid hb13; have HW13 := Lib.hid hW13
            have G13 := Lib.hid hg13
            clear hR11 hb11 hb12 hbx12 hb13 hW13 hg13
            go_wp2_with fail
            rw [HW13.out]
            go_roundg g2
            case measure => omega
            case rel =>
              have hsz12 := hgW12.size
              have hsz13 := G13.out.size
              have hg14 := (hg10.trans hg11).trans (grown_any hgW12 (some rb))
              have hblk : ∀ k, wo.heap.size ≤ k → k < wr.heap.size → k ≠ w8.heap.size → W13.heap[k]? = wr.heap[k]? := fun k h1 h2 h3 => by
                rw [G13.out.block k (by omega) (by intro e; have := Option.some.inj e; omega), hgW12.block k (by omega) (by simp), hg11.block k h2 (by intro e; have := Option.some.inj e; omega)]
              refine ⟨_, j' + 1, by omega, R12.out.keptO G13.out (by intro k hk; cases hk; omega), grown_own hg14 G13.out (by intro k hk; cases hk; exact Nat.le_refl _), ⟨_, HB13.out, kRc_iff.2 ⟨none, 0, none, 0, none, 0, _, 1, rfl, by decide, by decide, ⟨Nat.le_refl _, Kd.C_nil _ _ _ _⟩, ⟨Nat.le_refl _, Kd.C_nil _ _ _ _⟩, ⟨Nat.le_refl _, Kd.C_nil _ _ _ _⟩,
                ⟨Nat.le_refl _, by simp [maxN], .inr ⟨w11.heap.size, 0, rfl, ⟨by omega, by omega, by omega⟩, fun i hi => ?_⟩⟩⟩⟩, hST2⟩
              have hi0 : i = 0 := by simpa using hi
              subst hi0
              refine ⟨_, kRc.step (fun k hk => ⟨⟨hk.1, by have := hk.2.1; omega, hk.2.2⟩, hblk k hk.1 hk.2.1 hk.2.2⟩) HK.out, fun jj u hu => ?_⟩
              have hbn : W13.heap[w11.heap.size]? = some (.cells #[.int .i64 xk', .slice B1 xs'.length d1, .int .i64 xb', .slice B3 xr'.length d3, .slice B4 xw'.length d4, .slice B5 xl'.length d5] 26 (0, 0)) := by
                rw [G13.out.block w11.heap.size (by omega) (by intro e; have := Option.some.inj e; omega)]; exact HB12.out
              rw [(cells_at hbn _).1]
              simpa using hu
          · have hfin : starsM l gk j' (.mk xk' xs' xb' xr' xw' xl') = (.mk xk' xs' xb' xr' xw' xl', j') := by
              cases gk with
              | zero => rfl
              | succ g2 => rw [starsM, if_neg h42]
            have hST3 : starsM l l.length q a.rc = (.mk xk' xs' xb' xr' xw' xl', j') := by rw [← hST]; exact hfin
            have HL3 : Hid (rowG atomf l g j' (acc ++ [.mk xk' xs' xb' xr' xw' xl']) = some r) := by
              have := HRE.out
              simp only [hST3] at this
              exact this
            have hO8 : ∀ n2, kRc.Own (fun k => w.heap.size + 1 ≤ k) (wr.drewN n2) (w.heap.size + 1) 26 u3 acc := fun n2 => HO7.out.kept (((grown_any hg9 (some rb)).trans hg10).trans (grown_drewN _ n2 _)) (by
              cases hv : u3.ownBlock with
              | none => exact .inl rfl
              | some k => exact .inr (by intro e; have h1 := Option.some.inj e; have := (HOB.out k hv).1; omega)) (.inr fun x cs hK => kRc.step (fun k hk => ⟨⟨hk.1, hk.2.1, by intro e; have := Option.some.inj e; have := hk.2.2; omega, hk.2.2⟩, rfl⟩) hK)
            have hY : ∀ n2, kRc.K (wr.drewN n2) (fun k => k < (wr.drewN n2).heap.size ∧ some k ≠ u3.ownBlock ∧ w.heap.size + 1 ≤ k) (.mk xk' xs' xb' xr' xw' xl') [.int .i64 xk', .slice B1 xs'.length d1, .int .i64 xb', .slice B3 xr'.length d3, .slice B4 xw'.length d4, .slice B5 xl'.length d5] := fun n2 => kRc.step (fun k hk => by
              have h1 := hk.1; have h2 := hk.2.1
              exact ⟨⟨h2, fun e => by have := (HOB.out k e.symm).2; omega, by omega⟩, rfl⟩) HK.out
            have hgw : w.grownBy wr (some rb) := ((hg.trans hgd).trans (grown_any hg9 (some rb))).trans hg10
            have H42 := Lib.hid h42
            have HO8 := Lib.hid hO8; have HY := Lib.hid hY; have HGW := Lib.hid hgw
            clear hrd hK hKr hbx h42 hST hce hfin hST3 hO8 hY
            go_wp2_with (first
              | (go_at_call 50; refine (eat_no R10.out 42 H42.out).mono ?_; rintro e w' ⟨rfl, n2, rfl⟩)
              | (at_builtin; refine wp_appn kRc (W := wr.drewN n2) (w0 := w) (row0 := some rb) (w.heap.size + 1) rfl _ _ _ 26 _ 112 rfl Tryz.underlying24 info26 rfl ⟨by decide, by decide⟩ u3 acc _ #[.int .i64 xk', .slice B1 xs'.length d1, .int .i64 xb', .slice B3 xr'.length d3, .slice B4 xw'.length d4, .slice B5 xl'.length d5] rfl wr.heap.size rfl rfl (HO8.out n2) (HY.out n2) (HGW.out.trans (grown_drewN _ _ _)) ?c1 ?c2 ?_))
            case c1 => exact ⟨by omega, by show _ ≤ wr.heap.size; omega⟩
            case c2 => omega
            intro v1 w1 hown hg5 hg6
            have hR14 := (R10.out.drewN n2).keptO hg6 (fun k hk => by have := (HOB.out k hk).1; omega)
            have R14 := Lib.hid hR14
            have hbz8 := (hg9.block w.heap.size (by omega) (by simp)).trans hbz7
            have hbz9 := (hg10.block w.heap.size (by omega) (by intro e; have := Option.some.inj e; omega)).trans hbz8
            have hbz10 : w1.heap[w.heap.size]? = some zero6 := by
              rw [hg6.block w.heap.size (by show w.heap.size < wr.heap.size; omega) (by intro e; have := (HOB.out _ e.symm).1; omega)]; exact hbz9
            clear hR14 hg6 hbz8 hbz9 hbz7
            go_wp2
            go_roundg g
            case measure => omega
            case rel => exact ⟨_, j', by simp; omega, R14.out, hown, hg5, hbz10, HL3⟩
end Go.Proofs.YtocfmjiollafaaaGreatDoor
