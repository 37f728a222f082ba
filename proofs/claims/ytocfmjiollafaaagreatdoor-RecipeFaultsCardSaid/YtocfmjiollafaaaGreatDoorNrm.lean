import Derived.Test.YtocfmjiollafaaaGreatDoorPln
import Derived.Test.YtocfmjiollafaaaGreatDoorWord
import Derived.Test.YtocfmjiollafaaaGreatDoorShelf
import Derived.BigRegion
import Derived.Deep.DeepCutAuto
import Derived.Deep.CutBlock
import Derived.Deep.RegionWith
namespace Go.Proofs.YtocfmjiollafaaaGreatDoor
open Go.RowKit
set_option linter.unusedVariables false
set_option linter.unusedSimpArgs false
attribute [local go_sem] max_rule min_rule
/-- How a function ends that hands spans back in memory of its own. -/
def SpOwn (w : World) (xs : List Sp) (e : Ending) (w' : World) : Prop := ∃ v, e = .returned v ∧ kSp.Own (fun _ => True) w' w.heap.size 83 v xs ∧ w.grownBy w' none
theorem info83 : (Tryz.prog.info? 83).map (fun i => (i.zero, i.size, i.bytes)) = some (some (.agg #[.int .i64 0, .int .i64 0]), 2, 16) := by kernel_rfl

/-! the sort -/
def encSp (x : Sp) : List Value := [.int .i64 x.lo, .int .i64 x.hi]
instance : Inhabited Sp := ⟨⟨0, 0⟩⟩
def cmpSp (x y : Sp) : Int := Lib.compareInt x.lo y.lo
theorem ltSp (x y : Sp) : Go.Proofs.ltOf cmpSp x y = decide (x.lo < y.lo) := by
  unfold Go.Proofs.ltOf cmpSp Lib.compareInt
  by_cases h1 : x.lo < y.lo
  · simp [h1]
  · by_cases h2 : y.lo < x.lo <;> simp [h1, h2]
theorem swoSp : Sort.SWO (Go.Proofs.ltOf cmpSp) where
  irrefl x := by rw [ltSp]; simp
  trans x y z h1 h2 := by rw [ltSp] at *; simp at *; omega
  ntrans x y z h1 h2 := by rw [ltSp] at *; simp at *; omega
set_option maxHeartbeats 1000000 in
theorem closure84 (x y : Sp) (W : World) : Calls Tryz.prog 84 #[.agg #[.int .i64 x.lo, .int .i64 x.hi], .agg #[.int .i64 y.lo, .int .i64 y.hi]] W fun e w' => e = .returned (.int .i64 (cmpSp x y)) ∧ ∃ q os', w' = Sort.grow (W.drewN q) os' := by
  have hcon := fun W' => Tryz.cmp_Compare_int x.lo y.lo W'
  unfold cmpSp
  generalize Lib.compareInt x.lo y.lo = r at hcon ⊢
  go_enter Tryz.func84, Tryz.ntmps84
  go_wp2_with (go_at_call 85; refine (hcon _).mono ?_; rintro e w' ⟨rfl, rfl⟩)
  go_ret
  exact ⟨rfl, 0, _, by rw [Sort.alloc_eq_grow, Sort.alloc_eq_grow, Sort.grow_grow]; rfl⟩

theorem cmpLays84 (blk off size : Nat) (w : World) : CmpLays Tryz.prog 84 #[] encSp 2 cmpSp blk off size w :=
  fun _ _ _ _ x y => closure84 x y _
/-- A block whose first cells read as spans, and how many more there is room for. -/
def Arr (w : World) (g cap : Nat) (l : List Sp) : Prop := ∃ cur, w.heap[g]? = some (.cells cur 83 (0, 0)) ∧ cur.size = cap * 2 ∧ l.length ≤ cap ∧ ∀ i (h : i < l.length), cur[i * 2]? = some (.int .i64 l[i].lo) ∧ cur[i * 2 + 1]? = some (.int .i64 l[i].hi)
theorem sort_any (g cap : Nat) (l : List Sp) (w : World) (h : Arr w g cap l) (hl : l.length ≤ 1000000) :
    Calls Tryz.prog 83 #[.slice (some ⟨g, 0, none⟩) l.length cap, .func (.func 84) #[] #[]] w fun e w' => e = .returned (.tuple #[]) ∧ ∃ l', l'.Perm l ∧ l'.Pairwise (fun x y => x.lo ≤ y.lo) ∧ Arr w' g cap l' ∧ w.grownBy w' (some g) := by
  obtain ⟨cur, hb, hcs, hlc, hc⟩ := h
  have eg : ∀ args w, (callFunc 84 args).run Tryz.prog w = .ok (.enter 84 args) w := enters_of Tryz.func84 (by kernel_rfl) rfl
  have hlt : g < w.heap.size := (Array.getElem?_eq_some_iff.1 hb).1
  have hH : Go.Sort.HoldsK encSp 2 w g 0 l.toArray := by
    intro j hj
    obtain ⟨i, r, rfl, hr⟩ : ∃ i r, j = i * 2 + r ∧ r < 2 := ⟨j / 2, j % 2, by omega, by omega⟩
    have hj' : i * 2 + r < l.length * 2 := by simpa using hj
    have hi : i < l.length := by omega
    have hg2 := hc i hi
    rw [Go.Sort.get_flatK _ _ _ _ (by simpa using hj'), show (i * 2 + r) / 2 = i by omega, show (i * 2 + r) % 2 = r by omega]
    have he : (l.toArray)[i]! = l[i] := by simp [hi]
    rw [he]
    refine ⟨?_, by simp [World.frozen?, hb]⟩
    rw [World.cell?]
    simp only [hb, Nat.zero_add]
    have : r = 0 ∨ r = 1 := by omega
    rcases this with rfl | rfl
    · simpa [encSp] using hg2.1
    · simpa [encSp] using hg2.2
  have hcon := AnyQ.slices_SortFunc Tryz.sortSp 2 Tryz.isAgg83 Tryz.sizeOf83 encSp (fun _ => rfl) (fun x v hv => by simp [encSp] at hv; rcases hv with rfl | rfl <;> rfl) cmpSp swoSp 84 #[] g 0 cap l.toArray w eg (cmpLays84 g 0 _ w) hH hlt (by simp; omega)
  refine hcon.mono ?_
  rintro e w' ⟨he, d', n, os, hp, hs, hw⟩
  refine ⟨he, d'.toList, ?_, ?_, ?_, ?_⟩
  · obtain ⟨h1, h2, h3⟩ := hp
    have h4 : d'.size = l.length := by simpa using h1
    rw [← h1] at h3
    simp only [List.extract_toArray, Array.toList_extract, h4] at h3
    have e1 : d'.toList.take l.length = d'.toList := List.take_of_length_le (by simp; omega)
    simpa [e1, List.take_length] using h3
  · rw [List.pairwise_iff_getElem]
    intro i j hi hj hij
    have h1 := hp.1
    have := hs i j (Nat.zero_le _) hij (by rw [← h1]; simpa using hj)
    rw [ltSp] at this
    have hi' : i < d'.size := by simpa using hi
    have hj' : j < d'.size := by simpa using hj
    simp only [getElem!_pos d' i hi', getElem!_pos d' j hj', decide_eq_false_iff_not] at this
    simp only [Array.getElem_toList]
    omega
  all_goals
    have hsz : d'.size = l.length := by simpa using hp.1
    subst hw
    have hother : ∀ k, k < w.heap.size → k ≠ g → (sortWorldK encSp 2 w g 0 n d' os).heap[k]? = w.heap[k]? := by
      intro k hk hne
      simp only [sortWorldK, Go.Sort.grow, Go.Sort.putRowK, Go.Sort.putRow, Go.Sort.mapBlock, Go.Sort.ahead]
      rw [Array.getElem?_append_left (by simpa using hk), Array.getElem?_modify, if_neg (fun e => hne e.symm)]
  · refine ⟨Go.Sort.putCells id 0 (Go.Sort.flatK encSp 2 d') cur, ?_, by simp [Go.Sort.putCells, hcs], by simpa [hsz] using hlc, ?_⟩
    · simp only [sortWorldK, Go.Sort.grow, Go.Sort.putRowK, Go.Sort.putRow, Go.Sort.mapBlock, Go.Sort.ahead]
      rw [Array.getElem?_append_left (by simpa using hlt), Array.getElem?_modify, if_pos rfl, hb]
      rfl
    · intro i hi
      have hi' : i < d'.size := by simpa using hi
      have hcell : ∀ r, r < 2 → (Go.Sort.putCells id 0 (Go.Sort.flatK encSp 2 d') cur)[i * 2 + r]? = some ((encSp d'[i])[r]!) := by
        intro r hr
        have hlt2 : i * 2 + r < cur.size := by omega
        simp only [Go.Sort.putCells, Array.getElem?_mapIdx, Array.getElem?_eq_getElem hlt2, Option.map_some]
        rw [if_pos ⟨Nat.zero_le _, by rw [Go.Sort.size_flatK]; omega⟩, Nat.sub_zero, Go.Sort.get_flatK _ _ _ _ (by omega), show (i * 2 + r) / 2 = i by omega, show (i * 2 + r) % 2 = r by omega, getElem!_pos d' i hi']
        rfl
      have h0 := hcell 0 (by omega)
      have h1 := hcell 1 (by omega)
      simpa [encSp] using And.intro h0 h1
  · exact ⟨rfl, rfl, rfl, by simp [sortWorldK, Go.Sort.grow, Go.Sort.putRowK, Go.Sort.putRow, Go.Sort.mapBlock, Go.Sort.ahead], fun k hk hne => hother k hk (fun e => hne (by rw [e]))⟩
theorem splice_at (L : List Value) (p : Nat) (hp : p + 2 ≤ L.length) (u v : Value) (j : Nat) : (L.take p ++ [u, v] ++ L.drop (p + 2))[j]? = if j = p then some u else if j = p + 1 then some v else L[j]? := by
  have hl : (L.take p).length = p := by simp; omega
  by_cases h1 : j < p
  · rw [if_neg (by omega), if_neg (by omega), List.append_assoc, List.getElem?_append_left (by omega), List.getElem?_take_of_lt h1]
  · by_cases h2 : j = p
    · subst h2
      rw [if_pos rfl, List.append_assoc, List.getElem?_append_right (by omega), hl, Nat.sub_self]; rfl
    · by_cases h3 : j = p + 1
      · subst h3
        rw [if_neg (by omega), if_pos rfl, List.append_assoc, List.getElem?_append_right (by omega), hl, Nat.add_sub_cancel_left]; rfl
      · rw [if_neg h2, if_neg h3, List.getElem?_append_right (by simp; omega), List.getElem?_drop]
        congr 1
        simp
        omega
theorem put_at (arr : List Sp) (k : Nat) (hk : k ≤ arr.length) (y : Sp) (i : Nat) : (arr.take k ++ y :: arr.drop (k + 1))[i]? = if i = k then some y else arr[i]? := by
  have hl : (arr.take k).length = k := by simp; omega
  by_cases h1 : i < k
  · rw [if_neg (by omega), List.getElem?_append_left (by omega), List.getElem?_take_of_lt h1]
  · by_cases h2 : i = k
    · subst h2
      rw [if_pos rfl, List.getElem?_append_right (by omega), hl, Nat.sub_self]; rfl
    · rw [if_neg h2, List.getElem?_append_right (by omega), hl, show i - k = (i - (k + 1)) + 1 by omega, List.getElem?_cons_succ, List.getElem?_drop]
      congr 1
      omega
theorem arr_app {cur : Array Value} {cap k : Nat} {arr : List Sp} (y : Sp) (hs : cur.size = cap * 2) (ha : arr.length ≤ cap) (hc : ∀ i (h : i < arr.length), cur[i * 2]? = some (.int .i64 arr[i].lo) ∧ cur[i * 2 + 1]? = some (.int .i64 arr[i].hi)) (hk : k ≤ arr.length) (hkc : k < cap) :
    (cur.toList.take (k * 2) ++ [Value.int .i64 y.lo, Value.int .i64 y.hi] ++ cur.toList.drop (k * 2 + 2)).toArray.size = cap * 2 ∧ (arr.take k ++ y :: arr.drop (k + 1)).length ≤ cap ∧
    ∀ i (h : i < (arr.take k ++ y :: arr.drop (k + 1)).length), (cur.toList.take (k * 2) ++ [Value.int .i64 y.lo, Value.int .i64 y.hi] ++ cur.toList.drop (k * 2 + 2)).toArray[i * 2]? = some (.int .i64 (arr.take k ++ y :: arr.drop (k + 1))[i].lo) ∧
      (cur.toList.take (k * 2) ++ [Value.int .i64 y.lo, Value.int .i64 y.hi] ++ cur.toList.drop (k * 2 + 2)).toArray[i * 2 + 1]? = some (.int .i64 (arr.take k ++ y :: arr.drop (k + 1))[i].hi) := by
  refine ⟨by simp; omega, by simp; omega, fun i hi => ?_⟩
  have hp := splice_at cur.toList (k * 2) (by simp; omega) (.int .i64 y.lo) (.int .i64 y.hi)
  have hq := put_at arr k hk y i
  rw [List.getElem?_eq_getElem hi] at hq
  simp only [List.getElem?_toArray, hp]
  by_cases h : i = k
  · subst h
    rw [if_pos rfl] at hq
    have e := Option.some.inj hq
    rw [e, if_pos rfl, if_neg (by omega), if_pos rfl]
    exact ⟨rfl, rfl⟩
  · rw [if_neg h] at hq
    have hia : i < arr.length := by
      rcases Nat.lt_or_ge i arr.length with h | h
      · exact h
      · rw [List.getElem?_eq_none h] at hq; cases hq
    rw [List.getElem?_eq_getElem hia] at hq
    have e := Option.some.inj hq
    rw [e, if_neg (by omega), if_neg (by omega), if_neg (by omega), if_neg (by omega)]
    simpa using hc i hia
section
variable {P : Program} {ops : Array Oper} {rest : List Oper} {o : Oper} {a : Act} {Q : Exit → Act → World → Prop}
theorem wp_app_room {W : World} (hgd : o.guard = none) (s x : Operand) (t : TypeId)
    (ho : o.op = .call { callee := .builtin .append, args := #[s, x], argTypes := #[t, t] })
    (ht : P.underlying t = some (.slice 83)) (i0 : TypeInfo) (hi : P.info? 83 = some i0) (hsz : i0.size = 2)
    (g k cap : Nat) (arr : List Sp) (HA : Arr W g cap arr) (hk : k ≤ arr.length) (hkc : k < cap) (y : Sp) (nb : Nat) (hnb : W.heap.size = nb)
    (hs : a.eval s = .slice (some ⟨g, 0, none⟩) k cap) (hx : a.eval x = .slice (some ⟨nb, 0, none⟩) 1 1)
    (h : ∀ w1, Arr w1 g cap (arr.take k ++ y :: arr.drop (k + 1)) → W.grownBy w1 (some g) → wpList P ops Q rest (a.put o.dst (.slice (some ⟨g, 0, none⟩) (k + 1) cap)) w1) :
    wpList P ops Q (o :: rest) a (W.alloc (.cells #[.int .i64 y.lo, .int .i64 y.hi] 83)) := by
  subst hnb
  obtain ⟨cur, hb, hcs, hac, hc⟩ := HA
  have hlt : g < W.heap.size := (Array.getElem?_eq_some_iff.1 hb).1
  have hb2 : (W.alloc (.cells #[.int .i64 y.lo, .int .i64 y.hi] 83)).heap[g]? = some (.cells cur 83 (0, 0)) := by rw [heap_alloc_old _ _ hlt]; exact hb
  have hr := run_append_room (P := P) (W.alloc (.cells #[.int .i64 y.lo, .int .i64 y.hi] 83)) t o.type 83 i0 ht hi g k cap cur hb2 ⟨W.heap.size, 0, none⟩ 1 1 [.int .i64 y.lo, .int .i64 y.hi] (by simp [hsz])
    (World.news_of_block (cs := #[.int .i64 y.lo, .int .i64 y.hi]) (t := 83) (fr := (0, 0)) (heap_alloc_new W _)) (by intro u hu; simp at hu; rcases hu with rfl | rfl <;> rfl) (by omega) (by simp [hsz]; omega)
  rw [hsz] at hr
  refine wpList_plain hgd fun K hK => ?_
  unfold Oper.wp execOp
  simp only [ho, resolve, invoke, builtin, Sem.run_bind, Sem.run_pure, Result.andThen_ok, List.map_toArray, List.map_cons, List.map_nil, hs, hx, hr]
  obtain ⟨e1, e2, e3⟩ := arr_app y hcs hac hc hk hkc
  refine hK _ _ (h _ ⟨_, setRow_heap _ g _ _ _ _ hb2, e1, e2, e3⟩ ((World.grownBy_alloc W _ _).trans ⟨rfl, rfl, rfl, by simp, fun k hk hne => setRow_other _ _ _ _ (fun e => hne (by rw [e]))⟩))
end
theorem Arr.keep {w w' : World} {g cap : Nat} {l : List Sp} {row : Option Nat} (h : Arr w g cap l) (hg : w.grownBy w' row) (hne : some g ≠ row) : Arr w' g cap l := by
  obtain ⟨cur, hb, r⟩ := h
  exact ⟨cur, by rw [hg.block g (Array.getElem?_eq_some_iff.1 hb).1 hne]; exact hb, r⟩
theorem Arr.lt {w : World} {g cap : Nat} {l : List Sp} (h : Arr w g cap l) : g < w.heap.size := by
  obtain ⟨cur, hb, _⟩ := h; exact (Array.getElem?_eq_some_iff.1 hb).1
theorem Arr.len {w : World} {g cap : Nat} {l : List Sp} (h : Arr w g cap l) : l.length ≤ cap := h.choose_spec.2.2.1
theorem Arr.made {W : World} {base g cap : Nat} (h : W.ownsRow base 83 2 (.slice (some ⟨g, 0, none⟩) 0 cap) 0 []) : Arr W g cap [] := by
  obtain ⟨_, h⟩ := h
  rcases h with ⟨h, _⟩ | ⟨g', cap', cur, hv, _, hb, _, _, hs, _⟩
  · cases h
  · injection hv with h1 h2 h3
    injection h1 with h1
    injection h1 with h1
    subst h1; subst h3
    exact ⟨cur, hb, hs, Nat.zero_le _, fun i hi => by simp at hi⟩
theorem clipL_cons (x : Sp) (l : List Sp) : clipL (x :: l) = (if (clipS x).lo ≤ (clipS x).hi then [clipS x] else []) ++ clipL l := by
  unfold clipL
  rw [List.map_cons, List.filter_cons]
  by_cases h : (clipS x).lo ≤ (clipS x).hi
  · simp [h]
  · simp [h]
/-- what is handed back, from the output so far and the rest -/
def finS (o r : List Sp) : List Sp := match o.getLast? with | none => coal r | some c => o.dropLast ++ coalG c r
theorem finS_nil (o : List Sp) : finS o [] = o := by
  unfold finS
  cases h : o.getLast? with
  | none => simp [coal, List.getLast?_eq_none_iff.1 h]
  | some c => simp only [coalG]; obtain ⟨d, rfl⟩ := List.getLast?_eq_some_iff.1 h; simp
theorem finS_snoc (d : List Sp) (c : Sp) (r : List Sp) : finS (d ++ [c]) r = d ++ coalG c r := by unfold finS; simp
theorem finS_one (x : Sp) (r : List Sp) : finS [] (x :: r) = finS [x] r := by simp [finS, coal]
theorem finS_join (d : List Sp) (c x : Sp) (r : List Sp) (h : x.lo ≤ c.hi + 1) : finS (d ++ [c]) (x :: r) = finS (d ++ [⟨c.lo, mxI c.hi x.hi⟩]) r := by
  rw [finS_snoc, finS_snoc, coalG, if_pos h]
theorem finS_next (d : List Sp) (c x : Sp) (r : List Sp) (h : ¬ x.lo ≤ c.hi + 1) : finS (d ++ [c]) (x :: r) = finS (d ++ [c] ++ [x]) r := by
  rw [finS_snoc, finS_snoc, coalG, if_neg h]; simp
theorem Arr.at_ {w : World} {g cap : Nat} {l : List Sp} (h : Arr w g cap l) (i : Nat) (hi : i < l.length) : w.cell? ⟨g, i * 2, none⟩ = some (.int .i64 l[i].lo) ∧ w.cell? ⟨g, i * 2 + 1, none⟩ = some (.int .i64 l[i].hi) ∧ w.frozen? ⟨g, i * 2 + 1, none⟩ = false := by
  obtain ⟨cur, hb, _, _, hc⟩ := h
  exact ⟨by rw [(cells_at hb _).1]; exact (hc i hi).1, by rw [(cells_at hb _).1]; exact (hc i hi).2, (cells_at hb _).2⟩
theorem Arr.set {w : World} {g cap : Nat} {l : List Sp} (h : Arr w g cap l) (i : Nat) (hi : i < l.length) (v : Int) : Arr (w.setCell ⟨g, i * 2 + 1, none⟩ (.int .i64 v)) g cap (l.set i ⟨l[i].lo, v⟩) := by
  obtain ⟨cur, hb, hs, hl, hc⟩ := h
  refine ⟨_, cells_set hb _ _, by simp [hs], by simpa using hl, fun j hj => ?_⟩
  have hj' : j < l.length := by simpa using hj
  have h1 := hc j hj'
  rw [List.getElem_set]
  by_cases e : i = j
  · subst e
    rw [if_pos rfl]
    refine ⟨?_, ?_⟩
    · rw [Array.getElem?_setIfInBounds_ne (by omega)]; exact h1.1
    · rw [Array.getElem?_setIfInBounds_self_of_lt (by omega)]
  · rw [if_neg e, Array.getElem?_setIfInBounds_ne (by omega), Array.getElem?_setIfInBounds_ne (by omega)]
    exact h1
theorem grown_quiet (w : World) (o : Obj) (n : Nat) : w.grownBy ((w.alloc o).drewN n) none := (World.grownBy_alloc w o none).trans (grown_drewN _ _ _)
theorem Arr.own {w : World} {base g cap : Nat} {l o : List Sp} (h : Arr w g cap l) (hk : o.length ≤ l.length) (ho : l.take o.length = o) (hb : base ≤ g) (hI : InM l) (hcap : cap ≤ 1000000) : kSp.Own (fun _ => True) w base 83 (.slice (some ⟨g, 0, none⟩) o.length cap) o := by
  obtain ⟨cur, hbk, hs, hl, hc⟩ := h
  refine ⟨o.map fun x => [.int .i64 x.lo, .int .i64 x.hi], ⟨?_, .inr ⟨g, cap, cur, rfl, hb, hbk, by omega, by unfold maxLen; omega, hs, ?_⟩⟩, ?_⟩
  · clear ho hk; induction o with
    | nil => rfl
    | cons x o ih => simp only [List.map_cons, List.flatten_cons, List.length_append, ih]; show 2 + o.length * 2 = (o.length + 1) * 2; omega
  · show List.take (o.length * 2) cur.toList = _
    have hlen : ∀ (o : List Sp), ((o.map fun x => [Value.int .i64 x.lo, .int .i64 x.hi]).flatten).length = o.length * 2 := by
      intro o
      induction o with
      | nil => rfl
      | cons x o ih => simp only [List.map_cons, List.flatten_cons, List.length_append, ih]; show 2 + o.length * 2 = (o.length + 1) * 2; omega
    refine List.ext_getElem? fun m => ?_
    by_cases hm : m < o.length * 2
    · obtain ⟨i, r, rfl, hr⟩ : ∃ i r, m = i * 2 + r ∧ r < 2 := ⟨m / 2, m % 2, by omega, by omega⟩
      have hi : i < o.length := by omega
      have hil : i < l.length := by omega
      have hoi : o[i] = l[i] := by
        have := congrArg (fun q => q[i]?) ho
        simp only [List.getElem?_take, if_pos hi, List.getElem?_eq_getElem hi, List.getElem?_eq_getElem hil] at this
        exact (Option.some.inj this).symm
      rw [List.getElem?_take_of_lt hm, flatten_at 2 _ (by intro c hc; simp at hc; obtain ⟨_, _, rfl⟩ := hc; rfl) i (by simpa using hi) r hr]
      have h2 := hc i hil
      have : r = 0 ∨ r = 1 := by omega
      rcases this with rfl | rfl
      · simpa [hoi] using h2.1
      · simpa [hoi] using h2.2
    · rw [List.getElem?_eq_none (by simp; omega), List.getElem?_eq_none (by rw [hlen]; omega)]
  · have hIo : ∀ x ∈ o, I64 x.lo ∧ I64 x.hi := fun x hx => by
      rw [← ho] at hx
      have := hI x (List.mem_of_mem_take hx)
      unfold I64; omega
    clear ho hk
    induction o with
    | nil => exact .nil
    | cons x o ih => exact .cons ⟨rfl, hIo x (by simp)⟩ (ih fun y hy => hIo y (by simp [hy]))
theorem put_ok {arr s o : List Sp} {i : Nat} (x : Sp) (ho : arr.take o.length = o) (hk : o.length ≤ i) (hi : i < arr.length) (hd : arr.drop i = s.drop i) (hI : InM arr) (hx : x ∈ arr) :
    (arr.take o.length ++ x :: arr.drop (o.length + 1)).length = arr.length ∧ InM (arr.take o.length ++ x :: arr.drop (o.length + 1)) ∧
    (arr.take o.length ++ x :: arr.drop (o.length + 1)).take (o ++ [x]).length = o ++ [x] ∧ (arr.take o.length ++ x :: arr.drop (o.length + 1)).drop (i + 1) = s.drop (i + 1) := by
  have hl : (arr.take o.length).length = o.length := by simp; omega
  refine ⟨by simp; omega, ?_, ?_, ?_⟩
  · intro y hy
    simp only [List.mem_append, List.mem_cons] at hy
    rcases hy with hy | rfl | hy
    · exact hI y (List.mem_of_mem_take hy)
    · exact hI _ hx
    · exact hI y (List.mem_of_mem_drop hy)
  · rw [ho, List.take_append, List.take_of_length_le (by simp)]
    simp
  · have e : arr.drop (i + 1) = s.drop (i + 1) := by
      have := congrArg (List.drop 1) hd
      simpa [List.drop_drop] using this
    rw [← e]
    rw [List.drop_append, List.drop_eq_nil_of_le (by omega), hl, List.nil_append, show i + 1 - o.length = (i - o.length) + 1 by omega, List.drop_succ_cons, List.drop_drop]
    congr 1
    omega
theorem set_ok {arr s d : List Sp} {c y : Sp} {i : Nat} (ho : arr.take (d ++ [c]).length = d ++ [c]) (hk : (d ++ [c]).length ≤ i) (hi : i < arr.length) (hd : arr.drop i = s.drop i) (hI : InM arr) (hy : -1073741824 ≤ y.lo ∧ y.lo ≤ y.hi ∧ y.hi ≤ 1073741824) :
    (arr.set d.length y).length = arr.length ∧ InM (arr.set d.length y) ∧ (arr.set d.length y).take (d ++ [y]).length = d ++ [y] ∧ (arr.set d.length y).drop (i + 1) = s.drop (i + 1) ∧ ∃ h : d.length < arr.length, arr[d.length] = c := by
  simp only [List.length_append, List.length_cons, List.length_nil] at ho hk
  have e : arr.drop (i + 1) = s.drop (i + 1) := by
    have := congrArg (List.drop 1) hd
    simpa [List.drop_drop] using this
  have hlt : d.length < arr.length := by omega
  refine ⟨by simp, ?_, ?_, ?_, hlt, ?_⟩
  · intro z hz
    rcases List.mem_or_eq_of_mem_set hz with hz | rfl
    · exact hI z hz
    · exact hy
  · have h2 : (arr.set d.length y).take (d.length + 1) = (arr.take (d.length + 1)).set d.length y := by rw [List.take_set]
    simp only [List.length_append, List.length_cons, List.length_nil, Nat.zero_add]
    rw [h2, ho]
    simp
  · rw [List.drop_set_of_lt (by omega), e]
  · have := congrArg (fun l => l[d.length]?) ho
    simp only [List.getElem?_take, List.getElem?_append_right (Nat.le_refl _), Nat.sub_self] at this
    rw [if_pos (by omega), List.getElem?_eq_getElem hlt] at this
    simpa using this
set_option maxRecDepth 100000 in
set_option maxHeartbeats 4000000 in
theorem Norm_any (l : List Sp) (A : Option Addr) (c : Nat) (ok : Nat → Prop) (w : World) (hl : l.length ≤ 1000000) (hc : l.length ≤ c) (h : kSp.C w ok A l) :
    Calls Tryz.prog 70 #[.slice A l.length c] w (SpOwn w (normM l)) := by
  have H := Lib.hid h; clear h
  obtain ⟨i0, hi0, hz0, hz1, hz2⟩ := info_parts info83
  have hzs : i0.size = 2 := hz1
  go_enter Tryz.func70, Tryz.ntmps70
  go_wp2_with (at_make; go_must (refine wpList_make_own w rfl _ _ 22 rfl w.heap.size 83 i0 (.agg #[.int .i64 0, .int .i64 0]) 2 Tryz.underlying22 hi0 hz0 hz1 .i64 .i64 _ l.length rfl rfl rfl ?c1 ?c2 ?c3 ?_))
  case c1 => rw [hz2]; omega
  case c2 => unfold maxLen; omega
  case c3 => exact Nat.le_refl _
  intro w1 hown hg1
  have HA := Arr.made hown
  have hgl : w.heap.size < w1.heap.size := HA.lt
  clear hown
  go_wp2_with fail
  go_loopg [3, 15] l.length (fun m v iv wr => ∃ (k : Nat) (acc : List Sp), k + m = l.length ∧ iv = .int .i64 k ∧ v = .slice (some ⟨w.heap.size, 0, none⟩) acc.length l.length ∧ acc.length ≤ k ∧ Arr wr w.heap.size l.length acc ∧ w.grownBy wr none ∧ Hid (acc ++ clipL (l.drop k) = clipL l))
  case atStart => exact ⟨0, [], by omega, rfl, rfl, by simp, HA, hg1, rfl⟩
  case round =>
    obtain ⟨k, acc, hkm, rfl, rfl, hak, HA, hgr, HM⟩ := hrel
    have hgl := HA.lt
    have HAH := Lib.hid HA
    clear HA
    by_cases hlt : k < l.length
    · obtain ⟨b1, o1, x, rfl, hb1, cx0, cx1, hx0, hx1, hgx, HD⟩ := H.out.sp k hlt
      have hlt0 : b1 < w.heap.size := World.block_lt_of_cell? w _ cx0
      rw [show w.cell? ⟨b1, o1 + k * 2, none⟩ = wr.cell? ⟨b1, o1 + k * 2, none⟩ from (World.cell?_of_block (hgr.block b1 hlt0 (by simp))).symm] at cx0
      rw [show w.cell? ⟨b1, o1 + k * 2 + 1, none⟩ = wr.cell? ⟨b1, o1 + k * 2 + 1, none⟩ from (World.cell?_of_block (hgr.block b1 hlt0 (by simp))).symm] at cx1
      have hlt1 : b1 < wr.heap.size := World.block_lt_of_cell? wr _ cx0
      obtain ⟨z, hz⟩ : ∃ z, clipS x = z := ⟨_, rfl⟩
      have hz0 : mxI x.lo (-1073741824) = z.lo := by rw [← hz]; rfl
      have hz1 : mnI x.hi 1073741824 = z.hi := by rw [← hz]; rfl
      have HMM : Hid (acc ++ (if z.lo ≤ z.hi then [z] else []) ++ clipL (l.drop (k + 1)) = clipL l) := by
        show _ = _
        rw [← HM.out, HD.out, clipL_cons, hz, List.append_assoc]
      clear hgx hb1 hz HM
      by_cases hzz : z.lo ≤ z.hi
      · go_wp2_with (at_builtin; go_must (refine wp_app_room (W := wr.alloc (.cells #[.int .i64 z.lo, .int .i64 z.hi] 83)) rfl _ _ 22 rfl Tryz.underlying22 i0 hi0 hzs w.heap.size acc.length l.length acc (HAH.out.keep (World.grownBy_alloc _ _ none) (by simp)) (Nat.le_refl _) ?d1 z (wr.heap.size + 1) (by simp) rfl rfl ?_))
        case d1 => omega
        intro w3 HA3 hg3
        rw [List.drop_eq_nil_of_le (show acc.length ≤ acc.length + 1 by omega)] at HA3; try rw [List.take_length] at HA3
        go_wp2_with fail
        go_roundg (gk - 1)
        case measure => omega
        case rel => exact ⟨k + 1, acc ++ [z], by omega, by go_num, by simp, by simp; omega, HA3, grown_own hgr ((World.grownBy_alloc _ _ _).trans hg3) (by intro k hk; cases hk; exact Nat.le_refl _), by have := HMM.out; rwa [if_pos hzz] at this⟩
      · go_wp2_with fail
        go_roundg (gk - 1)
        case measure => omega
        case rel => exact ⟨k + 1, acc, by omega, by go_num, rfl, by omega, HAH.out.keep (World.grownBy_alloc _ _ none) (by simp), hgr.trans (World.grownBy_alloc _ _ _), by have := HMM.out; rwa [if_neg (show ¬ z.lo ≤ z.hi by omega), List.append_nil] at this⟩
    · obtain rfl : k = l.length := by omega
      have HC : Hid (acc = clipL l) := by
        show _ = _
        rw [← HM.out, List.drop_length]; simp [clipL]
      go_wp2_with fail
      refine (sort_any w.heap.size l.length acc wr HAH.out (by omega)).mono ?_
      rintro e1 w5 ⟨rfl, s, hperm, hsorted, HA5, hg5⟩
      clear HAH
      have hgr5 := grown_own hgr hg5 (by intro k hk; cases hk; exact Nat.le_refl _)
      have hsn : s.length = acc.length := hperm.length_eq
      have hsI : InM s := by
        intro x hx
        have := hperm.mem_iff.1 hx
        rw [HC.out] at this
        exact clipL_in l x this
      have hfin : Hid (coal s = normM l) := by
        show _ = _
        rw [HC.out] at hperm
        exact normM_of hperm hsorted
      obtain ⟨n, hn⟩ : ∃ n, acc.length = n := ⟨_, rfl⟩
      rw [hn] at hsn
      have hnl : n ≤ l.length := by omega
      clear hperm hsorted HC
      simp only [hn]
      clear HM hn
      go_wp2_with fail
      go_loopg [6, 9, 43] n (fun m vo v9 iv wr => ∃ (i : Nat) (arr o : List Sp), i + m = n ∧ iv = .int .i64 i ∧ vo = .slice (some ⟨w.heap.size, 0, none⟩) o.length l.length ∧ o.length ≤ i ∧ Arr wr w.heap.size l.length arr ∧ arr.length = n ∧ InM arr ∧ w.grownBy wr none ∧ Hid (arr.take o.length = o ∧ arr.drop i = s.drop i) ∧ Hid (finS o (s.drop i) = normM l))
      case atStart => exact ⟨0, s, [], by omega, rfl, rfl, by simp, HA5, hsn, hsI, hgr5, ⟨rfl, rfl⟩, hfin.out⟩
      case round =>
        obtain ⟨i, arr, o, him, rfl, rfl, hoi, HA, harr, hI, hgr, HT, HM⟩ := hrel
        have hg0 := HA.lt
        by_cases hlt : i < n
        · have hi : i < arr.length := by omega
          obtain ⟨cx0, cx1, -⟩ := HA.at_ i hi
          obtain ⟨x, hx⟩ : ∃ x, arr[i] = x := ⟨_, rfl⟩
          have hxm : x ∈ arr := by rw [← hx]; exact List.getElem_mem _
          obtain ⟨hx1, hx2, hx3⟩ := hI x hxm
          rw [hx] at cx0 cx1
          have hsd : s.drop i = x :: s.drop (i + 1) := by
            have e := HT.out.2
            rw [List.drop_eq_getElem_cons hi, hx] at e
            have e1 := congrArg List.tail e
            simp at e1
            rw [← e, e1]
          have HAH := Lib.hid HA
          have HX := Lib.hid (And.intro hxm (And.intro hI hsd))
          clear HA hxm hx hI hsd
          have hc : o = [] ∨ ∃ d c, o = d ++ [c] := by
            rcases List.eq_nil_or_concat o with h | ⟨d, c, h⟩
            · exact .inl h
            · exact .inr ⟨d, c, by simpa using h⟩
          rcases hc with rfl | ⟨d, c, rfl⟩
          · have HM2 : Hid (finS [x] (s.drop (i + 1)) = normM l) := by show _ = _; rw [← finS_one, ← HX.out.2.2, HM.out]
            go_wp2_with fail
            go_quiet (fail)
            go_wp2_with (at_builtin; go_must (refine wp_app_room rfl _ _ 22 rfl Tryz.underlying22 i0 hi0 hzs w.heap.size 0 l.length arr (HAH.out.keep (grown_quiet _ _ _) (by simp)) ?d1 ?d2 x _ ?d3 rfl rfl ?_))
            case d1 => omega
            case d2 => omega
            case d3 => first | rfl | simp
            intro w3 HA3 hg3
            go_wp2_with fail
            go_roundg (gk - 1)
            case measure => omega
            case rel =>
              obtain ⟨p1, p2, p3, p4⟩ := put_ok x HT.out.1 hoi hi HT.out.2 HX.out.2.1 HX.out.1
              simp only [List.length_nil, List.take_zero, List.nil_append, Nat.zero_add, List.drop_one] at p1 p2 p3 p4
              exact ⟨i + 1, x :: arr.tail, [x], by omega, by go_num, rfl, by simp, HA3, p1.trans harr, p2, grown_own hgr (World.grownBy.trans (grown_any (grown_quiet _ _ _) _) hg3) (by intro k hk; cases hk; exact Nat.le_refl _), ⟨p3, p4⟩, HM2.out⟩
          · have hpo := HT.out.1
            have hset := fun y h => set_ok (y := y) hpo hoi hi HT.out.2 HX.out.2.1 h
            have hcm : c ∈ arr.take (d ++ [c]).length := by rw [hpo]; simp
            obtain ⟨hdl, hcd⟩ := (hset c (HX.out.2.1 c (List.mem_of_mem_take hcm))).2.2.2.2
            have hcI := HX.out.2.1 c (by rw [← hcd]; exact List.getElem_mem _)
            obtain ⟨cc0, cc1, cfz⟩ := HAH.out.at_ d.length hdl
            rw [hcd] at cc0 cc1
            have hol : (d ++ [c]).length = d.length + 1 := by simp
            obtain ⟨hc1, hc2, hc3⟩ := hcI
            have HS := Lib.hid hset
            clear hset hpo
            obtain ⟨j, hdj⟩ : ∃ j, d.length = j := ⟨_, rfl⟩
            obtain ⟨k, hk⟩ : ∃ k, (d ++ [c]).length = k := ⟨_, rfl⟩
            have HC2 : Hid (∃ h : j < arr.length, arr[j] = c) := by subst hdj; exact ⟨hdl, hcd⟩
            obtain ⟨_, HC2⟩ := HC2
            have HC2 := Lib.hid HC2
            rw [hdj] at hol cc0 cc1 cfz hdl; rw [hk] at hol hoi
            simp only [hk]
            have HDJ := Lib.hid (And.intro hdj hk)
            have hw : wrap64 ((k : Int) - 1) = (j : Int) := by unfold wrap64; omega
            have hw4 : IntKind.i64.wrap ((k : Int) - 1) = (j : Int) := (IntWalk.i64_in _ (by omega)).trans (by omega)
            have hw5 : wrap64 (c.hi + 1) = c.hi + 1 := by unfold wrap64; omega
            clear hdj hk
            by_cases hj : x.lo ≤ c.hi + 1
            · go_wp2_with fail
              go_quiet (fail)
              go_wp2_with fail
              go_cut [] (fun w6 => Arr w6 w.heap.size l.length (arr.set j ⟨c.lo, mxI c.hi x.hi⟩) ∧ w.grownBy w6 none)
              case first =>
                go_region
                go_wp2_with fail
                go_meet
                case rel =>
                  have h1 := (HAH.out.keep (grown_quiet wr (.cells #[.int .i64 x.lo, .int .i64 x.hi] 83) nq) (by simp)).set j hdl (mxI c.hi x.hi)
                  have h2 : arr[j].lo = c.lo := by simp only [HC2.out]
                  rw [h2] at h1
                  exact ⟨h1, grown_own hgr ((grown_any (grown_quiet wr (.cells #[.int .i64 x.lo, .int .i64 x.hi] 83) nq) _).trans (grown_drew (grown_setCell _ ⟨w.heap.size, j * 2 + 1, none⟩ _))) (by intro k hk; cases hk; exact Nat.le_refl _)⟩
              case rest =>
              obtain ⟨w6, hw6⟩ : ∃ w6, w6 = wc := ⟨_, rfl⟩
              subst hw6
              obtain ⟨HA6, hg6⟩ := hcut
              go_wp2_with fail
              go_roundg (gk - 1)
              case measure => omega
              case rel =>
                have hmx : -1073741824 ≤ c.lo ∧ c.lo ≤ mxI c.hi x.hi ∧ mxI c.hi x.hi ≤ 1073741824 := by unfold mxI; split <;> omega
                obtain ⟨p1, p2, p3, p4, _⟩ := HS.out ⟨c.lo, mxI c.hi x.hi⟩ hmx
                obtain ⟨e1, e2⟩ := HDJ.out
                rw [e1] at p1 p2 p3 p4
                refine ⟨i + 1, arr.set j ⟨c.lo, mxI c.hi x.hi⟩, d ++ [⟨c.lo, mxI c.hi x.hi⟩], by omega, by go_num, ?_, by simp; omega, HA6, p1.trans harr, p2, hg6, ⟨by simpa [e1] using p3, p4⟩, ?_⟩
                · rw [← e2]; simp
                · show _ = _; rw [← finS_join d c x _ hj, ← HX.out.2.2, HM.out]
            · have hol2 := hol
              go_wp2_with fail
              go_quiet (fail)
              go_wp2_with (at_builtin; go_must (refine wp_app_room rfl _ _ 22 rfl Tryz.underlying22 i0 hi0 hzs w.heap.size (j + 1) l.length arr (HAH.out.keep (grown_quiet _ _ _) (by simp)) ?d1 ?d2 x _ ?d3 rfl rfl ?_))
              case d1 => omega
              case d2 => omega
              case d3 => first | rfl | simp
              intro w3 HA3 hg3
              go_wp2_with fail
              go_roundg (gk - 1)
              case measure => omega
              case rel =>
                obtain rfl : k = j + 1 := hol2
                obtain ⟨e1, e2⟩ := HDJ.out
                obtain ⟨p1, p2, p3, p4⟩ := put_ok x HT.out.1 (by omega) hi HT.out.2 HX.out.2.1 HX.out.1
                rw [e2] at p1 p2 p3 p4
                refine ⟨i + 1, arr.take (j + 1) ++ x :: arr.drop (j + 1 + 1), d ++ [c] ++ [x], by omega, by go_num, ?_, ?_, HA3, p1.trans harr, p2, grown_own hgr (World.grownBy.trans (grown_any (grown_quiet _ _ _) _) hg3) (by intro k hk; cases hk; exact Nat.le_refl _), ⟨p3, p4⟩, ?_⟩
                · rw [← e2]; simp
                · simp at e2 ⊢; omega
                · show _ = _; rw [← finS_next d c x _ (by omega), ← HX.out.2.2, HM.out]
        · obtain rfl : i = n := by omega
          have hon : Hid (o = normM l) := by
            show _ = _
            have h1 := HM.out
            rw [List.drop_eq_nil_of_le (by omega), finS_nil] at h1
            exact h1
          have HO := HA.own (base := w.heap.size) (by omega) HT.out.1 (Nat.le_refl _) hI (by omega)
          go_wp2_with fail
          go_ret
          obtain rfl : o = normM l := hon.out
          exact ⟨_, rfl, HO, hgr⟩
end Go.Proofs.YtocfmjiollafaaaGreatDoor
