/-
  Proved here: RecipeLetters, at any two words of symbols, returns true and leaves both as they were (the card, its listed variables tied to the program's text).
  Conditions: none beyond the given row's own.
-/
import Derived.Test.YtocfmjiollafaaaGreatDoorRows
import Derived.Test.YtocfmjiollafaaaGreatDoorCards
import Derived.Test.YtocfmjiollafaaaGreatDoorTie
import Derived.Test.YtocfmjiollafaaaGreatDoorLml
import Derived.WalkKit
import Derived.ProofKit
import Derived.OpenShut
import Derived.ChangeOld
import Derived.ChangeSlices
import Derived.Below
import Derived.SizedLaws
import Derived.LaidMore
import Derived.Stop.Joined
import Derived.SevenTiedAt
import Derived.Lib.LaidTab
namespace Go.Proofs.YtocfmjiollafaaaGreatDoor
open Go Go.ChangeShapes Go.WideShapes Go.ChangeAt Go.RowKit
set_option linter.unusedVariables false
theorem own : ownKnob Tryz.prog.godebug = none := by kernel_rfl
theorem laidOut : laidOutB Tryz.prog = true := by kernel_rfl
theorem gl3 : Tryz.prog.globalNamed "math/bits.deBruijn64tab" = some 3 := by kernel_rfl
theorem gl0 : Tryz.prog.globalNamed "internal/strconv.uint64pow10" = some 0 := by kernel_rfl
def deb64 : List Int := [0, 1, 56, 2, 57, 49, 28, 3, 61, 58, 42, 50, 38, 29, 17, 4, 62, 47, 59, 36, 45, 43, 51, 22, 53, 39, 33, 30, 24, 18, 12, 5, 63, 55, 48, 27, 60, 41, 37, 16, 46, 35, 44, 21, 52, 32, 23, 11, 54, 26, 40, 15, 34, 20, 31, 10, 25, 14, 19, 9, 13, 8, 7, 6]
theorem deb_eq {H : Type} : (Rows.laid_math_bits_deBruijn64tab : DataW H) = Lib.tabData .u8 deb64 := by kernel_rfl
theorem pow_eq {H : Type} : (Rows.laid_internal_strconv_uint64pow10 : DataW H) = Lib.tabData .u64 Lib.pow10Tab := by kernel_rfl
/-- What the row's condition gives: the tables that are read. -/
theorem tabs_of_laid {W : World} (h : laidMetH Tryz.prog Rows.recipeLettersRow.laid W) : Tabs W := by
  rw [MakeChecks.laidMetH_plain _ _ _ (by kernel_rfl)] at h
  obtain ⟨ps, ⟨g0, t0, cs0, f0, p0, q0, hg0, ht0, hv0, hd0, ⟨g1, t1, cs1, f1, p1, q1, hg1, ht1, hv1, hd1, ⟨g2, t2, cs2, f2, p2, q2, hg2, ht2, hv2, hd2, _, _⟩, _⟩, _⟩, _, _⟩ := h
  obtain rfl := Option.some.inj (gl3.symm.trans hg1)
  obtain rfl := Option.some.inj (gl0.symm.trans hg2)
  obtain rfl := Option.some.inj ((show (Tryz.prog.globals[3]?).map (·.type) = some 150 by kernel_rfl).symm.trans ht1)
  obtain rfl := Option.some.inj ((show (Tryz.prog.globals[0]?).map (·.type) = some 135 by kernel_rfl).symm.trans ht2)
  have e1 := Lib.cells_of_tab (zs := deb64) Tryz.underlying150 Tryz.underlying5 (by kernel_rfl) (by kernel_rfl) hd1
  have e2 := Lib.cells_of_tab (zs := Lib.pow10Tab) Tryz.underlying135 Tryz.underlying117 (by kernel_rfl) (by kernel_rfl) hd2
  have x1 : Lib.TabIs Tryz.prog W "math/bits.deBruijn64tab" .u8 deb64 := by
    unfold Lib.TabIs
    rw [hv1, ← e1]
  refine ⟨?_, ?_⟩
  · have := x1.cell gl3 15 (by decide)
    exact this
  · unfold Lib.TabIs
    rw [hv2, ← e2]
theorem door_met (os : Os) (args : Array Value) : laidMetH Tryz.prog Rows.recipeLettersRow.laid ((World.doorLaid Tryz.prog 400 os).forCall (fun _ _ => 0) ⟨#[], args, []⟩).memory := by
  rw [MakeChecks.laidMetH_plain _ _ _ (by kernel_rfl)]
  exact laidMet_of_run' 8 (by kernel_rfl) (by kernel_rfl)
/-- A slice of symbols that came in. -/
theorem rows_of {H : Type} {enc : TypeId × Value → H} {W : World} {base : Nat} {a : Option Addr} {len cap : Nat} {d : DataW H} {p : List MemPlace} {ts : List TypeId} {ds : List (DataW H)} {j : Nat}
    (hsz : (DataW.weightsEach Tryz.prog ts ds).all (· ≤ reachBytes) = true) (ht : ts[j]? = some 23) (hd : ds[j]? = some d)
    (h : DataW.Trod enc Tryz.prog W base (fun _ => true) true 23 (.slice a len cap) d p) : ∃ zs : List Int, zs.length = len ∧ len ≤ cap ∧ kRune.C W (live W) a zs := by
  obtain ⟨fuel, hf⟩ := h
  rcases open_ints Tryz.underlying23 Tryz.underlying21 (by kernel_rfl) hf with ⟨hcs, _⟩ | ⟨x, l, c, zs, hcs, _, hl, hm, hz, hx, hcell, hwz⟩
  · simp [Value.cells] at hcs
    obtain ⟨rfl, rfl, rfl⟩ := hcs
    exact ⟨[], rfl, Nat.le_refl _, Kd.C_nil _ _ _ _⟩
  · simp [Value.cells] at hcs
    obtain ⟨rfl, rfl, rfl⟩ := hcs
    obtain ⟨hx, _⟩ := Prod.mk.inj hx
    subst hx
    have z := sized_slice hsz ht hd Tryz.underlying23
    rw [show Tryz.prog.bytesOf 21 = 4 by kernel_rfl] at z
    have hzl : zs.length = cap := by simpa using hz
    have h1 : (lits (H := H) .i32 (zs.take len)).length + (lits (H := H) .i32 (zs.drop len)).length = zs.length := by
      simp [lits]
      omega
    rw [h1] at z
    have hR : reachBytes < 2 ^ 47 := by decide
    refine ⟨zs.take len, by simp; omega, hl, by simp [maxN]; omega, ?_⟩
    by_cases h0 : len = 0
    · exact .inl (by simp [h0])
    · have hc0 := hcell 0 (by omega)
      rw [show x.add 0 = x from if_pos rfl] at hc0
      obtain ⟨b, o, sp⟩ := x
      have hsp : sp = none := by
        cases sp with
        | none => rfl
        | some q =>
          exfalso
          revert hc0
          simp only [World.cell?]
          split <;> simp
      subst hsp
      have hlb : b < W.heap.size := by
        simp only [World.cell?] at hc0
        cases h2 : W.heap[b]? with
        | none => rw [h2] at hc0; simp at hc0
        | some oo => exact (Array.getElem?_eq_some_iff.1 h2).1
      refine .inr ⟨b, o, rfl, hlb, fun i hi => ?_⟩
      have hi' : i < len := by simp at hi; omega
      refine ⟨_, ⟨rfl, ?_⟩, fun jj u hu => ?_⟩
      · have hw := hwz ((zs.take len)[i]) (List.mem_of_mem_take (List.getElem_mem _))
        simp [Lit.wf, IntKind.min, IntKind.max, IntKind.signed, IntKind.bits] at hw
        simp only [List.getElem_take]
        unfold I32; omega
      · have hjj : jj = 0 := by have := (List.getElem?_eq_some_iff.1 hu).1; simpa using this
        subst hjj
        simp at hu
        subst hu
        have := hcell i (by omega)
        rw [add_plain2] at this
        have hg : zs.getD i 0 = zs[i]'(by omega) := by simp [List.getD_eq_getElem?_getD, List.getElem?_eq_getElem (show i < zs.length by omega)]
        rw [hg] at this
        have e6 : o + i * (Kd.int .i32 I32).sz + 0 = o + i := by show o + i * 1 + 0 = o + i; omega
        rw [e6]
        exact this
set_option maxRecDepth 100000 in
theorem lifted (os : Os) (started : os.Started) (H : Type) (enc : TypeId × Value → H) :
    ReturnsInHanded {} Tryz.checked os 4 .any (fun w args => (Rows.recipeLettersSpec.pre enc Tryz.prog Tryz.f4 [] false w args ∧ laidMetH Tryz.prog Rows.recipeLettersRow.laid w) ∧ sizedMet enc Tryz.prog Tryz.f4 (OpenSpec.ofChange Rows.recipeLettersSpec) false w args)
      (Rows.recipeLettersSpec.post enc Tryz.prog Tryz.f4 false true false false) := by
  refine returnsInHanded_of_change_and (C := Tryz.checked) (X := fun w _ => laidMetH Tryz.prog Rows.recipeLettersRow.laid w) (fun _ _ _ hh h => h.of_heap hh) own started (by kernel_rfl) Tryz.func4
    (ChangeSpec.witness_shaped (enc := enc) (C := Tryz.checked) (os := os) (X := fun w _ => laidMetH Tryz.prog Rows.recipeLettersRow.laid w) false (World.doorLaid Tryz.prog 400 os) #[.slice none 0 0, .slice none 0 0] 8 rfl (World.shaped_of_RefB (by kernel_rfl) (by kernel_rfl)) (by kernel_rfl) (by kernel_rfl) (by kernel_rfl) (door_met os _)) ?_
  intro W base args ds gs before hval0 hW hcnd hsz0 hL _
  have hsz : (DataW.weightsEach Tryz.prog (Tryz.f4.params.toList ++ Rows.recipeLettersSpec.plain.varTypes Tryz.prog) (ds ++ gs)).all (· ≤ reachBytes) = true := hsz0
  have hval : ∀ (j : Nat) t v, Tryz.f4.params[j]? = some t → args[j]? = some v → Value.okWide Tryz.prog W .any base t v := hval0
  have hW' := hW
  obtain ⟨p, q, hA0, hV, rfl, hfz, hnd⟩ := hW
  have hA : DataW.TrodAll enc Tryz.prog W 0 (fun _ => true) true Tryz.f4.params.toList args.toList ds p := hA0
  rw [Tryz.params4] at hA hval hsz
  obtain ⟨v0, vs0, d0, ds0, p0, q0, hargs, rfl, rfl, h0, r0⟩ := trodAll_cons hA
  obtain ⟨v1, vs1, d1, ds1, p1, q1, rfl, rfl, rfl, h1, r1⟩ := trodAll_cons r0
  obtain ⟨rfl, rfl, rfl⟩ := trodAll_nil r1
  obtain rfl : args = #[v0, v1] := by cases args; simp_all
  obtain ⟨rfl, rfl⟩ := trodVars_none hV
  obtain ⟨a0, len0, cap0, rfl⟩ := okWide_slice Tryz.underlying23 (hval 0 23 v0 rfl rfl)
  obtain ⟨a1, len1, cap1, rfl⟩ := okWide_slice Tryz.underlying23 (hval 1 23 v1 rfl rfl)
  have k0 := h0
  have k1 := h1
  have lt0 : ∀ x ∈ p0, x.block < W.heap.size := by obtain ⟨m, hm⟩ := k0; exact DataW.trod_lt m _ _ _ hm
  have lt1 : ∀ x ∈ p1, x.block < W.heap.size := by obtain ⟨m, hm⟩ := k1; exact DataW.trod_lt m _ _ _ hm
  obtain ⟨z0, l0, c0, y0⟩ := rows_of hsz (j := 0) rfl rfl h0
  obtain ⟨z1, l1, c1, y1⟩ := rows_of hsz (j := 1) rfl rfl h1
  subst l0 l1
  have hT := tabs_of_laid hL
  clear hA0 hval0 hsz0 hsz
  refine (RecipeLetters_any z0 z1 a0 a1 cap0 cap1 c0 c1 y0 y1 hT).mono fun e W' ⟨he, hg⟩ => ?_
  subst he
  have bel := grown_below hg
  exact ⟨_, rfl, _, _, _, [], _, [], hW', trodAll_mk1 (shut_bool Tryz.underlying4 _), (trodAll_cons_mk (Below.trod laidOut (by kernel_rfl) (of_decide_eq_true (by kernel_rfl)) k0 bel lt0) (trodAll_cons_mk (Below.trod laidOut (by kernel_rfl) (of_decide_eq_true (by kernel_rfl)) k1 bel lt1) trodAll_mk0)), rfl, bel.frame _, fun h => by cases h⟩
theorem over : Rows.recipeLettersRow.holds Tryz.pinned (OpenSpec.ofChange Rows.recipeLettersSpec) :=
  OpenClaim.holds_of_wide 4 Tryz.f4 rfl rfl rfl rfl rfl rfl rfl ⟨rfl, rfl, rfl, rfl, rfl⟩ rfl rfl rfl rfl rfl (by kernel_rfl) Tryz.func4 (by kernel_rfl)
    (of_decide_eq_true (by kernel_rfl)) (by unfold Func.isWrapper; first | (rw [if_pos (by decide +kernel)]; kernel_rfl) | (rw [if_neg (by decide +kernel)]; exact ⟨rfl, rfl⟩))
    (fun os started H enc _ => lifted os started H enc)
theorem recipeLetters_said : Rows.RecipeLettersSaid := over
theorem recipeLetters_card : Rows.RecipeLettersCardSaid :=
  Claim7.holds_tied_plain_at .later [] [.data, .data, .data, .sentinel, .sentinel] true (true, "ef155a2afc71f61dc2fd8b018af59eb0237014473646744ee8f804d2602d872a") true
    recipeLetters_said (fun _ h => by cases h) (by kernel_rfl) (fun _ h => by cases h) recipeLetters_row_tie rfl ⟨rfl, rfl⟩ (by kernel_rfl) rfl
    (fun f fn hf hfn => by
      obtain rfl : f = 4 := Option.some.inj ((show Tryz.prog.funcNamed "umlaut/umlautlaw25.RecipeLetters" = some 4 by kernel_rfl).symm.trans hf) |>.symm
      obtain rfl : fn = Tryz.f4 := (Option.some.inj (Tryz.func4.symm.trans hfn)).symm
      exact ⟨by kernel_rfl, fun j t ht => by
        rw [Tryz.params4] at ht
        have hm : t ∈ [23, 23] := by simpa using Array.mem_of_getElem? ht
        have hall : ([23, 23].all fun u => !Tryz.prog.wantsStandIn u) = true := by kernel_rfl
        exact (show Tryz.prog.wantsStandIn t = false by simpa using List.all_eq_true.1 hall t hm)⟩)
    (by kernel_rfl)
#print axioms recipeLetters_card
end Go.Proofs.YtocfmjiollafaaaGreatDoor
