import Derived.Test.YtocfmjiollafaaaGreatDoorRow
import Derived.Laws.OwnMore
namespace Go.Proofs.YtocfmjiollafaaaGreatDoor
open Go.RowKit
set_option linter.unusedVariables false
set_option linter.unusedSimpArgs false
theorem own_one {N : Nat → Prop} (w : World) (cs : Array Value) (x : Rc) (base : Nat) (hb : base ≤ w.heap.size) (hK : kRc.K w (fun k => k < w.heap.size ∧ N k) x cs.toList) :
    kRc.Own N (w.alloc (.cells cs 26)) base 26 (.slice (some ⟨w.heap.size, 0, none⟩) 1 1) [x] := by
  have hl : cs.size = 1 * 6 := by have : cs.toList.length = 6 := kRc.len hK; simpa using this
  have h1 := World.ownsRow_lit (base := base) (e := 26) (size := 6) w cs 1 hb (by simp [maxLen]) hl
  refine ⟨[cs.toList], (show (w.alloc (.cells cs 26)).ownsRow base 26 6 _ 1 [cs.toList].flatten from by simpa using h1), .cons (kRc.step (fun k hk => ⟨⟨by simp; omega, ?_, hk.2⟩, (World.grownBy_alloc w _ none).block k hk.1 (by simp)⟩) hK) .nil⟩
  show some k ≠ some w.heap.size
  intro e; have := Option.some.inj e; have := hk.1; omega
def altT (row : Nat → Option (Pr Rc)) (l : List Int) (k j : Nat) (acc : List Rc) : Option (Pr Rc) :=
  if sym l j = 124 then altG row l k (j + 1) acc else some (.ok (oneOr kAlt acc) j)
theorem altG_split {row : Nat → Option (Pr Rc)} {l : List Int} {k i : Nat} {acc : List Rc} {r : Pr Rc} (h : altG row l (k + 1) i acc = some r) :
    ∃ rr, row i = some rr ∧ (match rr with | .bad j => r = .bad j | .ok x j => altT row l k j (acc ++ [x]) = some r) := by
  rw [altG] at h
  cases hr : row i with
  | none => rw [hr] at h; cases h
  | some rr =>
    rw [hr] at h
    refine ⟨rr, rfl, ?_⟩
    cases rr with
    | bad j => exact (Option.some.inj h).symm
    | ok x j => exact h
set_option maxRecDepth 100000 in
set_option maxHeartbeats 4000000 in
theorem alt_any (rowf : Nat → Option (Pr Rc)) (fuel : Nat) {rb : Nat} {l : List Int} {i deep : Nat} {w : World} {r : Pr Rc} (hfu : fuel ≤ 70000)
    (HA : ∀ i' w' r', Rd rb l i' deep w' → rowf i' = some r' → Calls Tryz.prog 49 #[.pointer (some ⟨rb, 0, none⟩)] w' (PrPost rb l deep w' (RcF w') r'))
    (h : Rd rb l i deep w) (hr : altG rowf l (fuel + 1) i [] = some r) :
    Calls Tryz.prog 27 #[.pointer (some ⟨rb, 0, none⟩)] w (PrPost rb l deep w (RcF w) r) := by
  have hrb := h.cells.choose_spec.choose_spec.1
  have H := Lib.hid h; clear h
  obtain ⟨W, hW, hb2, hgW, hWs⟩ := one_new w zero6
  have R := Lib.hid (H.out.kept hgW)
  unfold zero6 at hW
  have HW := Lib.hid hW
  obtain ⟨rr, hrr, hre⟩ := altG_split hr
  have HRR := Lib.hid hrr; have HRE := Lib.hid hre
  have HAA := Lib.hid HA
  clear hW hr HA hrr hre
  have hrow := HAA.out i W rr R.out HRR.out
  have HROW := Lib.hid hrow
  clear hrow
  go_enter Tryz.func27, Tryz.ntmps27
  go_wp2_with fail
  rw [HW.out]
  cases rr with
  | bad q =>
    refine HROW.out.mono ?_
    rintro e w7 ⟨rfl, hg8⟩
    have hbd : r = .bad q := HRE.out
    go_wp2_with fail
    exact ⟨rfl, rfl, (grown_any hgW _).trans hg8⟩
  | ok x0 q =>
    refine HROW.out.mono ?_
    rintro e w3 ⟨v, rfl, hu, hR, hg3⟩
    have hrbW : rb < W.heap.size := by omega
    have hs3 := hg3.size
    obtain ⟨cs, rfl, hK⟩ := hu
    obtain ⟨xk, xs, xb, xr, xw, xl⟩ := x0
    obtain ⟨A1, c1, A3, c3, A4, c4, A5, c5, hce, _⟩ := kRc_iff.1 hK
    have hcs : cs = #[.int .i64 xk, .slice A1 xs.length c1, .int .i64 xb, .slice A3 xr.length c3, .slice A4 xw.length c4, .slice A5 xl.length c5] := by rw [show cs = ⟨cs.toList⟩ from rfl, hce]
    subst hcs
    have hown := own_one (N := fun k => w.heap.size + 1 ≤ k) w3 _ (.mk xk xs xb xr xw xl) (w.heap.size + 1) (by omega) (kRc.step (fun k hk => ⟨⟨hk.2, by have := hk.1; omega⟩, rfl⟩) hK)
    obtain ⟨W4, hW4, hb4, hgW4, hWs4⟩ := one_new w3 (.cells #[.int .i64 xk, .slice A1 xs.length c1, .int .i64 xb, .slice A3 xr.length c3, .slice A4 xw.length c4, .slice A5 xl.length c5] 26)
    rw [hW4] at hown
    have hbz3 := (hg3.block w.heap.size (by omega) (by intro e; have := Option.some.inj e; omega)).trans hb2
    have hbz4 := (hgW4.block w.heap.size (by omega) (by simp)).trans hbz3
    have R4 := Lib.hid (hR.kept hgW4)
    have HO4 := Lib.hid hown
    have hg4 := ((grown_any hgW (some rb)).trans hg3).trans (grown_any hgW4 (some rb))
    have HW4 := Lib.hid hW4
    clear hce hK hown hW4 hbz3 hb4
    go_wp2_with fail
    rw [HW4.out]
    go_loopg [3] fuel (fun k v wr => ∃ acc j, acc.length + k ≤ fuel + 1 ∧ Rd rb l j deep wr ∧ kRc.Own (fun k => w.heap.size + 1 ≤ k) wr (w.heap.size + 1) 26 v acc ∧ w.grownBy wr (some rb) ∧ wr.heap[w.heap.size]? = some zero6 ∧ Hid (altT rowf l k j acc = some r))
    case atStart => exact ⟨_, q, by simp; omega, R4.out, HO4.out, hg4, hbz4, HRE.out⟩
    case round =>
      obtain ⟨acc, j, haj, hrd, HO, hg, hbz, HL⟩ := hrel
      have R5 := Lib.hid hrd
      have hrs := hg.size
      by_cases h124 : sym l j = 124
      · have hjl := sym_lt h124 (by decide)
        have hj' : altG rowf l gk (j + 1) acc = some r := by
          have := HL.out
          rwa [altT, if_pos h124] at this
        obtain ⟨g, rfl⟩ : ∃ g, gk = g + 1 := by
          cases gk with
          | zero => simp [altG] at hj'
          | succ g => exact ⟨g, rfl⟩
        obtain ⟨rr, hrr, hre⟩ := altG_split hj'
        have HRR := Lib.hid hrr; have HRE2 := Lib.hid hre; have H124 := Lib.hid h124
        have hwsz := (Array.getElem?_eq_some_iff.1 hbz).1
        have HOO := Lib.hid HO
        clear hrd hrr hre h124 hj' HL HO
        go_wp2_with fail
        refine (eat_yes R5.out 124 H124.out (by decide)).mono ?_
        rintro e w6 ⟨_, rfl, rfl, hR6, hg6⟩
        have HROW := Lib.hid (HAA.out (j + 1) w6 rr hR6 HRR.out)
        clear hR6
        go_wp2_with fail
        cases rr with
        | bad q2 =>
          refine HROW.out.mono ?_
          rintro e w7 ⟨rfl, hg8⟩
          have hbd : r = .bad q2 := HRE2.out
          go_wp2_with fail
          exact ⟨rfl, rfl, hg.trans (hg6.trans hg8)⟩
        | ok x q2 =>
          refine HROW.out.mono ?_
          rintro e w7 ⟨v, rfl, hu, hR7, hg8⟩
          have hs6 := hg6.size; have hs8 := hg8.size
          obtain ⟨cs, rfl, hK⟩ := hu
          obtain ⟨xk', xs', xb', xr', xw', xl'⟩ := x
          obtain ⟨B1, d1, B3, d3, B4, d4, B5, d5, hce, _⟩ := kRc_iff.1 hK
          have hcs : cs = #[.int .i64 xk', .slice B1 xs'.length d1, .int .i64 xb', .slice B3 xr'.length d3, .slice B4 xw'.length d4, .slice B5 xl'.length d5] := by rw [show cs = ⟨cs.toList⟩ from rfl, hce]
          subst hcs
          have hob := HOO.out.base
          have hg9 := hg6.trans hg8
          have hO7 : kRc.Own (fun k => w.heap.size + 1 ≤ k) w7 (w.heap.size + 1) 26 u3 acc := HOO.out.kept hg9 (by
            cases hv : u3.ownBlock with
            | none => exact .inl rfl
            | some k => exact .inr (by intro e; have h1 := Option.some.inj e; have := (hob k hv).1; omega)) (.inr fun x cs hK => kRc.step (fun k hk => ⟨⟨hk.1, hk.2.1, by intro e; have := Option.some.inj e; have := hk.2.2; omega, hk.2.2⟩, rfl⟩) hK)
          have hY : kRc.K w7 (fun k => k < w7.heap.size ∧ some k ≠ u3.ownBlock ∧ w.heap.size + 1 ≤ k) (.mk xk' xs' xb' xr' xw' xl') [.int .i64 xk', .slice B1 xs'.length d1, .int .i64 xb', .slice B3 xr'.length d3, .slice B4 xw'.length d4, .slice B5 xl'.length d5] := kRc.step (fun k hk => by
            have h1 := hk.1; have h2 := hk.2
            exact ⟨⟨h2, fun e => by have := (hob k e.symm).2; omega, by omega⟩, rfl⟩) hK
          have hbz7 := (hg9.block w.heap.size hwsz (by intro e; have := Option.some.inj e; omega)).trans hbz
          have HO7 := Lib.hid hO7; have HY := Lib.hid hY; have HOB := Lib.hid hob; have R7 := Lib.hid hR7
          have HG := Lib.hid (hg.trans hg9)
          clear hO7 hY hK hob hce hR7 hbz
          go_wp2_with (at_builtin; refine wp_appn kRc (W := w7) (w0 := w) (row0 := some rb) (w.heap.size + 1) rfl _ _ _ 26 _ 112 rfl Tryz.underlying24 info26 rfl ⟨by decide, by decide⟩ u3 acc _ #[.int .i64 xk', .slice B1 xs'.length d1, .int .i64 xb', .slice B3 xr'.length d3, .slice B4 xw'.length d4, .slice B5 xl'.length d5] rfl w7.heap.size rfl rfl HO7.out HY.out HG.out ?c1 ?c2 ?_)
          case c1 => exact ⟨by omega, by omega⟩
          case c2 => omega
          intro v1 w1 hown hg5 hg10
          have hR14 := R7.out.keptO hg10 (fun k hk => by have := (HOB.out k hk).1; omega)
          have R14 := Lib.hid hR14
          have hbz10 : w1.heap[w.heap.size]? = some zero6 := by
            rw [hg10.block w.heap.size (by omega) (by intro e; have := (HOB.out _ e.symm).1; omega)]; exact hbz7
          clear hR14 hg10 hbz7
          go_wp2
          go_roundg g
          case measure => omega
          case rel => exact ⟨_, q2, by simp; omega, R14.out, hown, hg5, hbz10, HRE2.out⟩
      · have hrr : Hid (r = .ok (oneOr kAlt acc) j) := by
          have := HL.out
          rw [altT, if_neg h124] at this
          exact (Option.some.inj this).symm
        obtain ⟨Aa, ca, rfl, hca, hCa⟩ := HO.readsN (fun k hk => hk) (by unfold maxN; omega)
        have CA := Lib.hid hCa
        have hbz' := hbz
        unfold zero6 at hbz'
        have k0 := cells_at hbz' 0; have k1 := cells_at hbz' 1; have k2 := cells_at hbz' 2; have k3 := cells_at hbz' 3; have k4 := cells_at hbz' 4; have k5 := cells_at hbz' 5
        simp at k0 k1 k2 k3 k4 k5
        have BZ := Lib.hid hbz'
        have H124 := Lib.hid h124
        clear h124 HL hCa HO hbz hbz' haj hrd
        by_cases h1 : acc.length = 1
        · have b1 : ((acc.length : Int) == 1) = true := by simp [h1]
          obtain ⟨b, o, x, kd, set, A1, c1, by_, r', A3, c3, wt, A4, c4, l', A5, c5, rfl, hnb, hx, hxe, hK, z0, z1, z2, z3, z4, z5⟩ := CA.out.rcc 0 (by omega)
          simp only [Nat.zero_mul, Nat.add_zero] at z0 z1 z2 z3 z4 z5
          have hone : oneOr kAlt acc = x := by
            obtain ⟨y, rfl⟩ := List.length_eq_one_iff.1 h1
            have : y = x := by simpa using hx
            rw [← this]; rfl
          have HX := Lib.hid hone; have HK := Lib.hid hK; have HXE := Lib.hid hxe
          have bl : (0 : Int) < (acc.length : Int) := by omega
          clear h1 hx hone hK hxe
          go_wp2_with (go_at_call 50; refine (eat_no R5.out 124 H124.out).mono ?_; rintro e w' ⟨rfl, n, rfl⟩)
          refine rc_put rfl rfl rfl BZ.out fun W6 hg7 => ?_
          rw [hrr.out, HX.out]
          exact row_ret hrb hg R5.out hg7 HK.out
        · have b1 : ((acc.length : Int) == 1) = false := by simp; omega
          have hone : oneOr kAlt acc = kAlt acc := by
            cases acc with
            | nil => rfl
            | cons y t =>
              cases t with
              | nil => simp at h1
              | cons z t => rfl
          have HX := Lib.hid hone
          clear h1 hone
          go_wp2_with (go_at_call 50; refine (eat_no R5.out 124 H124.out).mono ?_; rintro e w' ⟨rfl, n, rfl⟩)
          refine rc_put rfl rfl rfl BZ.out fun W6 hg7 => ?_
          rw [hrr.out, HX.out]
          exact row_ret hrb hg R5.out hg7 (kRc_iff.2 ⟨none, 0, none, 0, none, 0, Aa, ca, rfl, by decide, by decide, ⟨Nat.le_refl _, Kd.C_nil _ _ _ _⟩, ⟨Nat.le_refl _, Kd.C_nil _ _ _ _⟩, ⟨Nat.le_refl _, Kd.C_nil _ _ _ _⟩, ⟨hca, CA.out⟩⟩)
/-- the reader of alternatives, whatever the text -/
theorem alternative_any : ∀ (k : Nat) {rb : Nat} {l : List Int} {i deep : Nat} {w : World} {r : Pr Rc}, Rd rb l i deep w → altM k l i deep = some r →
    Calls Tryz.prog 27 #[.pointer (some ⟨rb, 0, none⟩)] w (PrPost rb l deep w (RcF w) r)
  | 0, rb, l, i, deep, w, r, _, hr => by simp [altM] at hr
  | k + 1, rb, l, i, deep, w, r, h, hr => by
    have hl := h.cells.choose_spec.choose_spec.2.2.1
    rw [altM] at hr
    refine alt_any (fun i => rowG (fun i => atomM (altM k l) l i deep) l (l.length + 1) i []) l.length (by omega) (fun i' w' r' h' hr' => ?_) h hr
    refine row_any (fun i => atomM (altM k l) l i deep) (l.length + 1) (by omega) (fun i2 w2 r2 h2 hr2 => ?_) h' hr'
    exact atom_any (altM k l) (fun i3 w3 r3 h3 hr3 => alternative_any k h3 hr3) h2 hr2
end Go.Proofs.YtocfmjiollafaaaGreatDoor
