import Derived.Test.YtocfmjiollafaaaGreatDoorProg
import Derived.Test.YtocfmjiollafaaaGreatDoorMir
import Derived.Deep.QuietTactic
import Derived.BigQuiet
namespace Go.Proofs.YtocfmjiollafaaaGreatDoor
open Go.RowKit
set_option linter.unusedVariables false
set_option linter.unusedSimpArgs false

/-- The reader's struct: its text, its place, its depth. -/
def Rd (rb : Nat) (l : List Int) (i deep : Nat) (w : World) : Prop :=
  ∃ A c, w.heap[rb]? = some (.cells #[.slice A l.length c, .int .i64 (i : Int), .int .i64 (deep : Int)] 56 (0, 0)) ∧ l.length ≤ c ∧ kRune.C w (fun k => k < rb) A l ∧ i ≤ l.length ∧ deep ≤ 64 ∧ l.length ≤ 65536 ∧
    (l = [] ∨ ∃ b o cs fr, A = some ⟨b, o, none⟩ ∧ b < rb ∧ w.heap[b]? = some (.cells cs 21 fr))

theorem typed_step {A : Option Addr} {l : List Int} {rb : Nat} {w w' : World} (hs : ∀ k, k < rb → w'.heap[k]? = w.heap[k]?) (h : l = [] ∨ ∃ b o cs fr, A = some ⟨b, o, none⟩ ∧ b < rb ∧ w.heap[b]? = some (.cells cs 21 fr)) :
    l = [] ∨ ∃ b o cs fr, A = some ⟨b, o, none⟩ ∧ b < rb ∧ w'.heap[b]? = some (.cells cs 21 fr) := by
  rcases h with h | ⟨b, o, cs, fr, hA, hb, hh⟩
  · exact .inl h
  · exact .inr ⟨b, o, cs, fr, hA, hb, by rw [hs b hb]; exact hh⟩
theorem Rd.cells {rb : Nat} {l : List Int} {i deep : Nat} {w : World} (h : Rd rb l i deep w) : ∃ A c, rb < w.heap.size ∧ l.length ≤ c ∧ l.length ≤ 65536 ∧ i ≤ l.length ∧ deep ≤ 64 ∧ kRune.C w (fun k => k < rb) A l ∧
    w.cell? ⟨rb, 0, none⟩ = some (.slice A l.length c) ∧ w.cell? ⟨rb, 1, none⟩ = some (.int .i64 (i : Int)) ∧ w.cell? ⟨rb, 2, none⟩ = some (.int .i64 (deep : Int)) ∧ w.frozen? ⟨rb, 1, none⟩ = false ∧ w.frozen? ⟨rb, 2, none⟩ = false := by
  obtain ⟨A, c, hh, hl, hc, h1, h2, h3, _⟩ := h
  exact ⟨A, c, (Array.getElem?_eq_some_iff.1 hh).1, hl, h3, h1, h2, hc, by simp [World.cell?, hh], by simp [World.cell?, hh], by simp [World.cell?, hh], by simp [World.frozen?, hh], by simp [World.frozen?, hh]⟩
theorem Rd.sym_range {rb : Nat} {l : List Int} {i deep : Nat} {w : World} (h : Rd rb l i deep w) (j : Nat) : I32 (sym l j) := by
  obtain ⟨A, c, hh, hl, h, h1, h2, h3, _⟩ := h
  unfold sym
  by_cases hi : j < l.length
  · obtain ⟨b, o, x, _, _, _, hx, h2, _⟩ := h.rune j hi
    simp [List.getD_eq_getElem?_getD, h2, hx]
  · simp [List.getD_eq_getElem?_getD, List.getElem?_eq_none (Nat.le_of_not_lt hi), I32]
theorem Rd.keptO {rb : Nat} {l : List Int} {i deep : Nat} {w w' : World} {row : Option Nat} (h : Rd rb l i deep w) (hg : w.grownBy w' row) (hrow : ∀ k, row = some k → rb < k) : Rd rb l i deep w' := by
  obtain ⟨A, c, hh, hl, h, h1, h2, h3, h4⟩ := h
  have hrb := (Array.getElem?_eq_some_iff.1 hh).1
  exact ⟨A, c, by rw [hg.block rb hrb (fun e => by have := hrow rb e.symm; omega)]; exact hh, hl, h.step (fun k hk => ⟨hk, hg.block k (by omega) (fun e => by have := hrow k e.symm; omega)⟩), h1, h2, h3, typed_step (fun k hk => hg.block k (by omega) (fun e => by have := hrow k e.symm; omega)) h4⟩
theorem Rd.kept {rb : Nat} {l : List Int} {i deep : Nat} {w w' : World} (h : Rd rb l i deep w) (hg : w.grownBy w' none) : Rd rb l i deep w' := h.keptO hg (by simp)
theorem Rd.lowstep {rb : Nat} {w w' : World} (hrb : rb < w.heap.size) (hg : w.grownBy w' (some rb)) : ∀ k, k < rb → k < rb ∧ w'.heap[k]? = w.heap[k]? := fun k hk => ⟨hk, hg.block k (by omega) (by intro e; cases e; omega)⟩
theorem Rd.put {rb : Nat} {l : List Int} {i deep : Nat} {w : World} (h : Rd rb l i deep w) (j : Nat) (hj : j ≤ l.length) : Rd rb l j deep (w.setCell ⟨rb, 1, none⟩ (.int .i64 (j : Int))) := by
  obtain ⟨A, c, hh, hl, h, h1, h2, h3, h4⟩ := h
  have hg := grown_setCell w ⟨rb, 1, none⟩ (.int .i64 (j : Int))
  exact ⟨A, c, by simp [World.setCell, Array.getElem?_modify, hh], hl, h.step (Rd.lowstep (Array.getElem?_eq_some_iff.1 hh).1 hg), hj, h2, h3, typed_step (fun k hk => (Rd.lowstep (Array.getElem?_eq_some_iff.1 hh).1 hg k hk).2) h4⟩
theorem Rd.putz {rb : Nat} {l : List Int} {i deep : Nat} {w : World} (h : Rd rb l i deep w) (z : Int) (j : Nat) (hz : z = (j : Int)) (hj : j ≤ l.length) : Rd rb l j deep (w.setCell ⟨rb, 1, none⟩ (.int .i64 z)) := by
  subst hz; exact h.put j hj
theorem Rd.putDeep {rb : Nat} {l : List Int} {i deep : Nat} {w : World} (h : Rd rb l i deep w) (j : Nat) (hj : j ≤ 64) : Rd rb l i j (w.setCell ⟨rb, 2, none⟩ (.int .i64 (j : Int))) := by
  obtain ⟨A, c, hh, hl, h, h1, h2, h3, h4⟩ := h
  have hg := grown_setCell w ⟨rb, 2, none⟩ (.int .i64 (j : Int))
  exact ⟨A, c, by simp [World.setCell, Array.getElem?_modify, hh], hl, h.step (Rd.lowstep (Array.getElem?_eq_some_iff.1 hh).1 hg), h1, hj, h3, typed_step (fun k hk => (Rd.lowstep (Array.getElem?_eq_some_iff.1 hh).1 hg k hk).2) h4⟩
theorem Rd.drewN {rb : Nat} {l : List Int} {i deep : Nat} {w : World} (h : Rd rb l i deep w) (n : Nat) : Rd rb l i deep (w.drewN n) := h.kept (grown_drewN _ _ _)

/-- a write below the reader, to what is no runes -/
theorem Rd.keptB {rb : Nat} {l : List Int} {i deep g : Nat} {w w' : World} (h : Rd rb l i deep w) (hg : w.grownBy w' (some g)) (hne : g ≠ rb) (ht : ∀ cs fr, w.heap[g]? ≠ some (.cells cs 21 fr)) : Rd rb l i deep w' := by
  obtain ⟨A, c, hh, hl, h, h1, h2, h3, h4⟩ := h
  have hrb := (Array.getElem?_eq_some_iff.1 hh).1
  refine ⟨A, c, by rw [hg.block rb hrb (fun e => hne (Option.some.inj e).symm)]; exact hh, hl, ?_, h1, h2, h3, ?_⟩
  · rcases h4 with rfl | ⟨b, o, cs, fr, rfl, hb, hbh⟩
    · exact ⟨h.1, .inl rfl⟩
    · have hbg : b ≠ g := by rintro rfl; exact ht _ _ hbh
      have e := hg.block b (by omega) (fun e => hbg (Option.some.inj e))
      refine ⟨h.1, ?_⟩
      rcases h.2 with hx | ⟨b', o', hA, hb', hat⟩
      · exact .inl hx
      · cases hA
        refine .inr ⟨b, o, rfl, hb', fun i hi => ?_⟩
        obtain ⟨cs', hK, hc⟩ := hat i hi
        exact ⟨cs', plain_int _ _ _ _ _ _ _ _ hK, fun j u hu => by rw [World.cell?_of_block (w := w) (w' := w') e]; exact hc j u hu⟩
  · rcases h4 with rfl | ⟨b, o, cs, fr, rfl, hb, hbh⟩
    · exact .inl rfl
    · have hbg : b ≠ g := by rintro rfl; exact ht _ _ hbh
      exact .inr ⟨b, o, cs, fr, rfl, hb, by rw [hg.block b (by omega) (fun e => hbg (Option.some.inj e))]; exact hbh⟩
def NextPost (w : World) (x : Int) (e : Ending) (w' : World) : Prop := e = .returned (.int .i32 x) ∧ ∃ n, w' = w.drewN n

set_option maxHeartbeats 400000 in
theorem next_any {rb : Nat} {l : List Int} {i deep : Nat} {w : World} (h : Rd rb l i deep w) :
    Calls Tryz.prog 28 #[.pointer (some ⟨rb, 0, none⟩)] w (NextPost w (sym l i)) := by
  obtain ⟨A, c, hrb, hlc, hl, hi, hd, hC, c0, c1, c2, f1, f2⟩ := h.cells
  by_cases hlt : i < l.length
  · obtain ⟨b, o, x, rfl, hb, hx, hr, hg, _⟩ := hC.rune i hlt
    have hs : sym l i = x := by simp [sym, List.getD_eq_getElem?_getD, hg]
    rw [hs]
    clear h hs hg hC
    go_enter Tryz.func28, Tryz.ntmps28
    go_wp2
    go_quiet (fail)
    go_wp2
    go_quiet (fail)
    go_wp2
    go_ret
    exact ⟨rfl, _, World.drewN_drewN ..⟩
  · have hs : sym l i = -1 := by simp [sym, List.getD_eq_getElem?_getD, List.getElem?_eq_none (Nat.le_of_not_lt hlt)]
    rw [hs]
    clear h hs hC
    go_enter Tryz.func28, Tryz.ntmps28
    go_wp2
    go_quiet (fail)
    go_wp2
    go_ret
    exact ⟨rfl, _, rfl⟩

/-- How a reader's function ends that hands something back. -/
def RdOk (rb : Nat) (l : List Int) (j deep : Nat) (w : World) (V : Value → World → Prop) (e : Ending) (w' : World) : Prop :=
  ∃ v, e = .returned v ∧ V v w' ∧ Rd rb l j deep w' ∧ w.grownBy w' (some rb)
/-- How it ends that gives up. -/
def RdBad (rb : Nat) (j : Nat) (w : World) (e : Ending) (w' : World) : Prop :=
  e = .panicked [{ v := .iface 58 (.agg #[.int .i64 (j : Int)]), recovered := false }] ∧ w.grownBy w' (some rb)

set_option maxHeartbeats 400000 in
theorem eat_no {rb : Nat} {l : List Int} {i deep : Nat} {w : World} (h : Rd rb l i deep w) (x : Int) (hx : sym l i ≠ x) :
    Calls Tryz.prog 50 #[.pointer (some ⟨rb, 0, none⟩), .int .i32 x] w (fun e w' => e = .returned (.bool false) ∧ ∃ n, w' = w.drewN n) := by
  have hn : (sym l i != x) = true := by simpa using hx
  have H := Lib.hid h; clear h hx
  go_enter Tryz.func50, Tryz.ntmps50
  go_wp2_with (go_at_call 28; refine (next_any H.out).mono ?_; rintro e w' ⟨rfl, n, rfl⟩)
  go_ret
  exact ⟨rfl, _, rfl⟩
theorem RdOk.put {rb : Nat} {l : List Int} {i deep : Nat} {w : World} (h : Rd rb l i deep w) (n j : Nat) (z : Int) (hz : z = (j : Int)) (hj : j ≤ l.length) {V : Value → World → Prop} {v : Value} (hv : V v ((w.drewN n).setCell ⟨rb, 1, none⟩ (.int .i64 z))) :
    RdOk rb l j deep w V (.returned v) ((w.drewN n).setCell ⟨rb, 1, none⟩ (.int .i64 z)) := by
  subst hz
  exact ⟨v, rfl, hv, (h.drewN n).put j hj, (grown_drewN w n _).trans (grown_setCell _ _ _)⟩
set_option maxHeartbeats 400000 in
theorem eat_yes {rb : Nat} {l : List Int} {i deep : Nat} {w : World} (h : Rd rb l i deep w) (x : Int) (hx : sym l i = x) (h0 : 0 ≤ x) :
    Calls Tryz.prog 50 #[.pointer (some ⟨rb, 0, none⟩), .int .i32 x] w (RdOk rb l (i + 1) deep w fun v _ => v = .bool true) := by
  have hn : (sym l i != x) = false := by simpa using hx
  obtain ⟨A, c, hrb, hlc, hl, hi, hd, hC, c0, c1, c2, f1, f2⟩ := h.cells
  have hlt := sym_lt hx h0
  have H := Lib.hid h; clear h hx hC
  go_enter Tryz.func50, Tryz.ntmps50
  go_wp2_with (go_at_call 28; refine (next_any H.out).mono ?_; rintro e w' ⟨rfl, n, rfl⟩)
  go_ret
  exact RdOk.put H.out n (i + 1) _ (by omega) (by omega) rfl
set_option maxHeartbeats 400000 in
theorem fail_any {rb : Nat} {l : List Int} {i deep : Nat} {w : World} (h : Rd rb l i deep w) :
    Calls Tryz.prog 29 #[.pointer (some ⟨rb, 0, none⟩)] w (RdBad rb i w) := by
  obtain ⟨A, c, hrb, hlc, hl, hi, hd, hC, c0, c1, c2, f1, f2⟩ := h.cells
  clear h hC
  go_enter Tryz.func29, Tryz.ntmps29
  go_wp2
  exact ⟨rfl, rfl, World.grownBy.refl _ _⟩
theorem RdBad.of {rb j : Nat} {w w' : World} {e : Ending} {w'' : World} (hg : w.grownBy w' (some rb)) (h : RdBad rb j w' e w'') : RdBad rb j w e w'' := ⟨h.1, hg.trans h.2⟩
set_option maxHeartbeats 400000 in
theorem must_yes {rb : Nat} {l : List Int} {i deep : Nat} {w : World} (h : Rd rb l i deep w) (x : Int) (hx : sym l i = x) (h0 : 0 ≤ x) :
    Calls Tryz.prog 78 #[.pointer (some ⟨rb, 0, none⟩), .int .i32 x] w (RdOk rb l (i + 1) deep w fun v _ => v = .tuple #[]) := by
  have H := Lib.hid h; have Hx := Lib.hid hx; clear h hx
  go_enter Tryz.func78, Tryz.ntmps78
  go_wp2_with (go_at_call 50; refine (eat_yes H.out x Hx.out h0).mono ?_; rintro e w' ⟨_, rfl, rfl, hr, hg⟩)
  go_end0
  exact ⟨_, rfl, rfl, hr, hg⟩
set_option maxHeartbeats 400000 in
theorem must_no {rb : Nat} {l : List Int} {i deep : Nat} {w : World} (h : Rd rb l i deep w) (x : Int) (hx : sym l i ≠ x) :
    Calls Tryz.prog 78 #[.pointer (some ⟨rb, 0, none⟩), .int .i32 x] w (RdBad rb i w) := by
  have H := Lib.hid h; have Hx := Lib.hid hx; clear h hx
  go_enter Tryz.func78, Tryz.ntmps78
  go_wp2_with (first | (go_at_call 50; refine (eat_no H.out x Hx.out).mono ?_; rintro e w' ⟨rfl, n, rfl⟩) | (go_at_call 29; refine (fail_any (H.out.drewN _)).mono ?_; rintro e w' ⟨rfl, hg⟩))
  exact ⟨rfl, rfl, (grown_drewN _ _ _).trans hg⟩
end Go.Proofs.YtocfmjiollafaaaGreatDoor
