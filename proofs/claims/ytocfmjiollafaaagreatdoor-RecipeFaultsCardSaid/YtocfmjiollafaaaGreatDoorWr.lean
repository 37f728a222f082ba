import Derived.Test.YtocfmjiollafaaaGreatDoorProg
import Derived.Test.YtocfmjiollafaaaGreatDoorMir
import Derived.Laws.IdiomStrings
import Derived.Deep.QuietTactic
import Derived.BigQuiet
namespace Go.Proofs.YtocfmjiollafaaaGreatDoor
open Go.RowKit
set_option linter.unusedVariables false
set_option linter.unusedSimpArgs false
section
variable {α : Type} {P : Program} {ops : Array Oper} {rest : List Oper} {o : Oper} {a : Act} {Q : Exit → Act → World → Prop}
/-- 'append(v, ys...)'. -/
theorem wp_appx (d : Kd α) {N : Nat → Prop} {W : World} (base : Nat) (hgd : o.guard = none) (s x : Operand) (t e : TypeId) (z : Value) (bytes : Nat)
    (ho : o.op = .call { callee := .builtin .append, args := #[s, x], argTypes := #[t, t] })
    (ht : P.underlying t = some (.slice e)) (hinfo : (P.info? e).map (fun i => (i.zero, i.size, i.bytes)) = some (some z, d.sz, bytes)) (hz : z.cells.size = d.sz) (hpos : 0 < d.sz ∧ 0 < bytes)
    (v : Value) (xs ys : List α) (b oo m c : Nat) (hs : a.eval s = v) (hx : a.eval x = .slice (some ⟨b, oo, none⟩) m c) (hm : m = ys.length)
    (HO : d.Own N W base e v xs) (HY : ∀ i (h : i < ys.length), d.At W (fun k => k < W.heap.size ∧ some k ≠ v.ownBlock ∧ N k) b (oo + i * d.sz) ys[i]) (hbase : base ≤ W.heap.size)
    (hl : (xs.length + ys.length) * bytes ≤ 140737488355328)
    (h : ∀ v1 w1, d.Own N w1 base e v1 (xs ++ ys) → W.grownBy w1 v.ownBlock → (v1.ownBlock = v.ownBlock ∨ v1.ownBlock = some W.heap.size) → wpList P ops Q rest (a.put o.dst v1) w1) :
    wpList P ops Q (o :: rest) a W := by
  obtain ⟨i0, hi, hz0, hz1, hz2⟩ := info_parts hinfo
  have hlen : xs.length + ys.length ≤ 140737488355328 := Nat.le_trans (Nat.le_mul_of_pos_right _ hpos.2) hl
  have hb := HO.base
  obtain ⟨css, h1, h2⟩ := HO
  subst hm
  have hex : ∀ (l : List α) (o1 : Nat), (∀ i (h : i < l.length), d.At W (fun k => k < W.heap.size ∧ some k ≠ v.ownBlock ∧ N k) b (o1 + i * d.sz) l[i]) →
      ∃ dss : List (List Value), All2 (fun x c => d.K W (fun k => k < W.heap.size ∧ some k ≠ v.ownBlock ∧ N k) x c) l dss ∧ ∀ j u, dss.flatten[j]? = some u → W.cell? ⟨b, o1 + j, none⟩ = some u := by
    intro l
    induction l with
    | nil => intro o1 _; exact ⟨[], .nil, fun j u hu => by simp at hu⟩
    | cons y l ih =>
      intro o1 hat
      obtain ⟨cs, hK, hc⟩ := hat 0 (by simp)
      have hcl := d.len hK
      obtain ⟨dss, h3, h4⟩ := ih (o1 + d.sz) (fun i hi => by
        have := hat (i + 1) (by simpa using hi)
        rw [show o1 + (i + 1) * d.sz = o1 + d.sz + i * d.sz by rw [Nat.succ_mul]; omega] at this
        simpa using this)
      refine ⟨cs :: dss, .cons (by simpa using hK) h3, fun j u hu => ?_⟩
      rw [List.flatten_cons] at hu
      by_cases hj : j < d.sz
      · rw [List.getElem?_append_left (by omega)] at hu
        have := hc j u hu
        simpa using this
      · rw [List.getElem?_append_right (by omega), hcl] at hu
        have := h4 _ u hu
        rwa [show o1 + d.sz + (j - d.sz) = o1 + j by omega] at this
  obtain ⟨dss, h3, h4⟩ := hex ys oo HY
  have hfl : dss.flatten.length = ys.length * d.sz := by
    have hlen3 := all2_len h3
    have hcl := Kd.css_len h3
    rw [hlen3]
    clear h3 h4 hlen3
    induction dss with
    | nil => simp
    | cons c dss ih =>
      have := ih (fun c hc => hcl c (by simp [hc]))
      rw [List.flatten_cons, List.length_append, hcl c (by simp), this, List.length_cons, Nat.succ_mul]
      omega
  have hone : ∀ u ∈ dss.flatten, u.oneCell' = true := by
    intro u hu
    obtain ⟨c, hc, hu⟩ := List.mem_flatten.1 hu
    exact Kd.css_one h3 c hc u hu
  refine wpList_append_own_at W hgd s x t ho base e i0 z d.sz bytes ht hi hz0 hz1 hz2 hz hpos.1 v xs.length _ hs h1 ⟨b, oo, none⟩ ys.length c dss.flatten hx hfl
    (fun j u hu => by rw [add_plain2]; exact h4 j u hu) hone (by simp only [maxLen]; omega) hl hbase ?_
  intro v1 w1 hown hg1 _ hat
  have hstep : ∀ k, (k < W.heap.size ∧ some k ≠ v.ownBlock ∧ N k) → (k < w1.heap.size ∧ some k ≠ v1.ownBlock ∧ N k) ∧ w1.heap[k]? = W.heap[k]? := by
    intro k hk
    refine ⟨⟨Nat.lt_of_lt_of_le hk.1 hg1.size, ?_, hk.2.2⟩, hg1.block k hk.1 hk.2.1⟩
    rcases hat with hat | hat
    · rw [hat]; exact hk.2.1
    · rw [hat]
      intro he
      have : k = W.heap.size := by simpa using he
      omega
  refine h v1 w1 ⟨css ++ dss, ?_, ?_⟩ hg1 hat
  · rw [List.flatten_append, List.length_append]
    exact hown
  · exact all2_append (all2_imp (fun x c hK => d.step hstep hK) h2) (all2_imp (fun x c hK => d.step hstep hK) h3)
end
/-- The writer's struct: its text, in a row of its own. -/
def Wr (wb : Nat) (ws : List Int) (v : Value) (w : World) : Prop :=
  w.heap[wb]? = some (.cells #[v] 47 (0, 0)) ∧ kRune.Own (fun _ => True) w (wb + 1) 21 v ws
/-- What a writer's function may turn: the writer's block, its row, and what is new. -/
structure WGo (wb : Nat) (v : Value) (w : World) (v' : Value) (w' : World) : Prop where
  os : w'.os = w.os
  tape : w'.tape = w.tape
  output : w'.output = w.output
  size : w.heap.size ≤ w'.heap.size
  block : ∀ k, k < w.heap.size → k ≠ wb → some k ≠ v.ownBlock → w'.heap[k]? = w.heap[k]?
  own : v'.ownBlock = v.ownBlock ∨ ∃ k, v'.ownBlock = some k ∧ w.heap.size ≤ k
theorem WGo.refl (wb : Nat) (v : Value) (w : World) : WGo wb v w v w := ⟨rfl, rfl, rfl, Nat.le_refl _, fun _ _ _ _ => rfl, .inl rfl⟩
theorem WGo.trans {wb : Nat} {v1 v2 v3 : Value} {w1 w2 w3 : World} (h1 : WGo wb v1 w1 v2 w2) (h2 : WGo wb v2 w2 v3 w3) : WGo wb v1 w1 v3 w3 := by
  refine ⟨h2.os.trans h1.os, h2.tape.trans h1.tape, h2.output.trans h1.output, Nat.le_trans h1.size h2.size, fun k hk hne ho => ?_, ?_⟩
  · refine (h2.block k (Nat.lt_of_lt_of_le hk h1.size) hne ?_).trans (h1.block k hk hne ho)
    rcases h1.own with e | ⟨j, e, hj⟩
    · rw [e]; exact ho
    · rw [e]; intro e2; have := Option.some.inj e2; omega
  · rcases h2.own with e | ⟨j, e, hj⟩
    · rw [e]; exact (h1.own)
    · exact .inr ⟨j, e, Nat.le_trans h1.size hj⟩
theorem WGo.grown {wb : Nat} {v : Value} {w w' : World} (h : w.grownBy w' none) : WGo wb v w v w' := ⟨h.os, h.tape, h.output, h.size, fun k hk _ _ => h.block k hk (by simp), .inl rfl⟩
theorem Wr.kept {wb : Nat} {ws : List Int} {v : Value} {w w' : World} (h : Wr wb ws v w) (hg : w.grownBy w' none) : Wr wb ws v w' :=
  ⟨by rw [hg.block wb (Array.getElem?_eq_some_iff.1 h.1).1 (by simp)]; exact h.1, h.2.keep hg⟩
/-- blocks that the writer does not reach -/
def nW (wb : Nat) (v : Value) (w : World) : Nat → Prop := fun k => k < w.heap.size ∧ k ≠ wb ∧ some k ≠ v.ownBlock
theorem WGo.step {wb : Nat} {v v' : Value} {w w' : World} (h : WGo wb v w v' w') : ∀ k, nW wb v w k → nW wb v' w' k ∧ w'.heap[k]? = w.heap[k]? := by
  intro k hk
  refine ⟨⟨Nat.lt_of_lt_of_le hk.1 h.size, hk.2.1, ?_⟩, h.block k hk.1 hk.2.1 hk.2.2⟩
  rcases h.own with e | ⟨j, e, hj⟩
  · rw [e]; exact hk.2.2
  · rw [e]; intro e2; have := Option.some.inj e2; have := hk.1; omega
/-- How a writer's function ends. -/
def WPost (wb : Nat) (ws t : List Int) (v : Value) (w : World) (e : Ending) (w' : World) : Prop :=
  ∃ v', e = .returned (.tuple #[]) ∧ Wr wb (ws ++ t) v' w' ∧ WGo wb v w v' w'
theorem runesFrom_list (s : ByteArray) : ∀ (b i : Nat) (acc : Array Value), (Conv.runesFrom s b i acc).toList = acc.toList ++ (runesFromL s b i).map (Value.int .i32)
  | 0, i, acc => by simp [Conv.runesFrom, runesFromL]
  | b + 1, i, acc => by
    unfold Conv.runesFrom
    rw [runesFromL]
    split
    · rw [runesFrom_list s b]
      simp
    · simp
theorem runesFrom_I32 (s : ByteArray) : ∀ (b i : Nat), ∀ x ∈ runesFromL s b i, I32 x
  | 0, i => by simp [runesFromL]
  | b + 1, i => by
    rw [runesFromL]
    split
    · intro x hx
      rcases List.mem_cons.1 hx with rfl | hx
      · exact inS_I32 (decode_cases s i).2.2
      · exact runesFrom_I32 s b _ x hx
    · simp
theorem runesFromL_len (s : ByteArray) : ∀ (b i : Nat), (runesFromL s b i).length ≤ b
  | 0, i => by simp [runesFromL]
  | b + 1, i => by rw [runesFromL]; split <;> simp; exact runesFromL_len s b _
/-- '[]rune(s)' -/
theorem conv_runes (w : World) (s : ByteArray) (h : s.size ≤ 70368744177664) : ∃ (c : Nat) (W : World), (convert 9 23 (.string s)).run Tryz.prog w = .ok (.slice (some ⟨w.heap.size, 0, none⟩) (runesOf s).length c) W ∧
    w.grownBy W none ∧ W.heap.size = w.heap.size + 1 ∧ ∀ i (h : i < (runesOf s).length), ∀ ok : Nat → Prop, kRune.At W ok w.heap.size (0 + i * 1) (runesOf s)[i] := by
  have hlist := runesFrom_list s s.size 0 #[]
  rw [show #[].toList = ([] : List Value) from rfl, List.nil_append] at hlist
  have hlen : (Conv.runesFrom s s.size 0 #[]).size = (runesOf s).length := by
    have := congrArg List.length hlist
    simpa [runesOf] using this
  have hr := run_runes_of_string (P := Tryz.prog) w 9 23 21 s Tryz.underlying9 Tryz.underlying23 Tryz.underlying21 (by have := runesFromL_len s s.size 0; rw [hlen]; unfold runesOf; omega)
  rw [hlen] at hr
  refine ⟨_, _, hr, ?_, by simp, fun i hi ok => ⟨_, ⟨rfl, runesFrom_I32 s _ _ _ (List.getElem_mem _)⟩, fun j u hu => ?_⟩⟩
  · exact (grown_drew (World.grownBy.refl w none)).trans (World.grownBy_alloc _ _ _)
  · have hj : j = 0 := by have := (List.getElem?_eq_some_iff.1 hu).1; simpa using this
    subst hj
    simp at hu
    subst hu
    have h2 : (Conv.runesFrom s s.size 0 #[])[i]? = some (.int .i32 (runesOf s)[i]) := by
      rw [← Array.getElem?_toList, hlist, List.getElem?_map]
      unfold runesOf at hi ⊢
      rw [List.getElem?_eq_getElem hi]; rfl
    have h3 : i < (Conv.runesFrom s s.size 0 #[]).size := by omega
    have hn := heap_alloc_new w.drew (.cells (Conv.runesFrom s s.size 0 #[] ++ Array.replicate (grownCap w (Conv.runesFrom s s.size 0 #[]).size 0 21 - (Conv.runesFrom s s.size 0 #[]).size) (.int .i32 0)) 21)
    rw [hlen] at hn
    rw [show w.drew.heap = w.heap from rfl] at hn
    simp only [World.cell?, Nat.zero_add, Nat.mul_one, Nat.add_zero, hn]
    rw [Array.getElem?_append_left h3, h2]; rfl
theorem info21w : (Tryz.prog.info? 21).map (fun i => (i.zero, i.size, i.bytes)) = some (some (.int .i32 0), 1, 4) := by kernel_rfl
set_option maxRecDepth 100000 in
set_option maxHeartbeats 400000 in
theorem put_any {wb : Nat} {ws : List Int} {v : Value} {w : World} (s : ByteArray) (h : Wr wb ws v w) (hs : s.size ≤ 1048576) (hl : ws.length ≤ 65536) :
    Calls Tryz.prog 36 #[.pointer (some ⟨wb, 0, none⟩), .string s] w (WPost wb ws (runesOf s) v w) := by
  obtain ⟨A, c, rfl, hc, hC⟩ := h.2.reads (by unfold maxN; omega)
  have hcl := cells_at h.1 0
  have hwb := (Array.getElem?_eq_some_iff.1 h.1).1
  simp at hcl
  obtain ⟨c2, W, hcv, hgW, hWs, hat⟩ := conv_runes w s (by omega)
  have H := Lib.hid h; have HA := Lib.hid hat
  have HO := Lib.hid (h.kept hgW).2
  have hlr : (runesOf s).length ≤ s.size := runesFromL_len s s.size 0
  clear h hat hC hWs
  go_enter Tryz.func36, Tryz.ntmps36
  go_wp2_with (at_builtin; refine wp_appx kRune (wb + 1) rfl _ _ _ 21 (.int .i32 0) 4 rfl Tryz.underlying23 info21w rfl ⟨by decide, by decide⟩ (.slice A ws.length c) ws (runesOf s) w.heap.size 0 _ c2 rfl rfl rfl HO.out (fun i hi => HA.out i hi _) ?c1 ?c2 ?_)
  case c1 => have := hgW.size; omega
  case c2 => omega
  intro v1 w1 hown hg1 hat
  obtain ⟨A1, c1, rfl, hcc1, hC1⟩ := hown.reads (by unfold maxN; rw [List.length_append]; omega)
  generalize (ws ++ runesOf s).length = n1 at hown hat ⊢
  have hwb1 : w1.heap[wb]? = some (.cells #[.slice A ws.length c] 47 (0, 0)) := by
    rw [hg1.block wb (Nat.lt_of_lt_of_le hwb hgW.size) (by intro e; have := (HO.out.base wb e.symm).1; omega), hgW.block wb hwb (by simp)]
    exact H.out.1
  have hc1 := cells_at hwb1 0
  simp at hc1
  have HW := Lib.hid hown; have HT := Lib.hid hat
  clear hown hat hcl hC1 hcc1
  go_wp2_with fail
  go_end0
  have hs1 := hg1.size
  have hs2 := hgW.size
  have hb1 := HW.out.base
  refine ⟨_, rfl, ⟨cells_set hwb1 0 _, HW.out.keptP (row := some wb) (plain_int _ _) (grown_setCell w1 ⟨wb, 0, none⟩ _) (by intro k hk; cases hk; omega)⟩, ?_⟩
  have hgs : w1.grownBy (w1.setCell ⟨wb, 0, none⟩ (.slice A1 n1 c1)) (some wb) := grown_setCell w1 ⟨wb, 0, none⟩ _
  refine ⟨hgs.os.trans (hg1.os.trans hgW.os), hgs.tape.trans (hg1.tape.trans hgW.tape), hgs.output.trans (hg1.output.trans hgW.output), Nat.le_trans hs2 (Nat.le_trans hs1 hgs.size), fun k hk hne ho => ?_, ?_⟩
  · rw [hgs.block k (by omega) (by intro e; have := Option.some.inj e; omega), hg1.block k (by omega) ho, hgW.block k hk (by simp)]
  · rcases HT.out with e | e
    · exact .inl e
    · exact .inr ⟨_, e, hs2⟩
end Go.Proofs.YtocfmjiollafaaaGreatDoor
