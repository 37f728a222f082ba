import Derived.Test.YtocfmjiollafaaaGreatDoorWord
namespace Go.Proofs.YtocfmjiollafaaaGreatDoor
open Go.RowKit
set_option linter.unusedVariables false
set_option linter.unusedSimpArgs false
/-- How word.Of ends: its block holds runes. -/
def OfRet (w : World) (xs : List Int) (e : Ending) (w' : World) : Prop := ∃ A c, e = .returned (.slice A xs.length c) ∧ xs.length ≤ c ∧ kRune.C w' (live w') A xs ∧ w.grownBy w' none ∧
  (xs = [] ∨ ∃ b o cs fr, A = some ⟨b, o, none⟩ ∧ b < w'.heap.size ∧ w'.heap[b]? = some (.cells cs 21 fr))
theorem Kd.Own.typed {α : Type} {d : Kd α} {N : Nat → Prop} {W : World} {base e : Nat} {A : Option Addr} {n c : Nat} {xs : List α} (h : d.Own N W base e (.slice A n c) xs) :
    xs = [] ∨ ∃ b o cs fr, A = some ⟨b, o, none⟩ ∧ b < W.heap.size ∧ W.heap[b]? = some (.cells cs e fr) := by
  obtain ⟨css, h1, h2⟩ := h
  rcases h1.2 with ⟨hv, hn⟩ | ⟨g, cap, cur, hv, hb, hh, _⟩
  · exact .inl (List.eq_nil_of_length_eq_zero hn)
  · cases hv
    exact .inr ⟨g, 0, cur, _, rfl, (Array.getElem?_eq_some_iff.1 hh).1, hh⟩
set_option maxHeartbeats 400000 in
theorem Of_typed (s : ByteArray) (w : World) (hs : s.size ≤ 1048576) : Calls Tryz.prog 16 #[.string s] w (OfRet w (runesOf s)) := by
  go_enter Tryz.func16, Tryz.ntmps16
  go_wp2
  go_loopg [3] (s.size) (fun b v wr => ∃ pos : Nat, ∃ acc : List Int, acc.length ≤ pos ∧ pos ≤ s.size + 4 ∧ s.size ≤ pos + b ∧ wr.heap[w.heap.size]? = some (.stringIter s pos) ∧ kRune.Own (fun _ => True) wr (w.heap.size + 1) 21 v acc ∧ w.grownBy wr none ∧
    Hid (acc ++ runesFromL s b pos = runesOf s))
  case atStart => exact ⟨0, [], by simp, by omega, by omega, World.iter_heap _ _ _, Kd.Own.nil _ _ _ _ _, World.grownBy_alloc _ _ _, rfl⟩
  case round =>
    obtain ⟨pos, acc, hp, hp4, hb, hit, HO, hg, HR⟩ := hrel
    by_cases hlt : pos < s.size
    · obtain ⟨d1, d2, d3⟩ := decode_cases s pos
      obtain ⟨x, hx⟩ : ∃ x : Int, ((Utf8.decode s pos).1 : Int) = x := ⟨_, rfl⟩
      obtain ⟨n, hn⟩ : ∃ n, (Utf8.decode s pos).2 = n := ⟨_, rfl⟩
      obtain ⟨W1, hnx, hit1, hg1⟩ : ∃ W1 : World, (∀ ty, (Instr.next (.pointer (some ⟨w.heap.size, 0, none⟩)) true ty).run Tryz.prog wr = .ok (.tuple #[.bool true, .int .i64 pos, .int .i32 x]) W1) ∧ W1.heap[w.heap.size]? = some (.stringIter s (pos + n)) ∧ wr.grownBy W1 (some w.heap.size) :=
        ⟨wr.iterAt w.heap.size s (pos + n), fun ty => by rw [← hx, ← hn]; exact Lib.run_next_any_at wr w.heap.size s pos ty hit hlt, Lib.iterAt_heap _ _ _ _ _ hit, ⟨rfl, rfl, rfl, by rw [Lib.iterAt_size]; omega, fun k hk hne => Lib.iterAt_other _ _ _ _ _ (by intro e; subst e; exact hne rfl)⟩⟩
      have hwsz := (Array.getElem?_eq_some_iff.1 hit).1
      have HO1 : kRune.Own (fun _ => True) W1 (w.heap.size + 1) 21 u3 acc := HO.keptP (plain_int _ _) hg1 (by intro k hk; cases hk; omega)
      have hg2 : w.grownBy W1 none := grown_own hg hg1 (by intro k hk; cases hk; omega)
      have hsz1 := hg1.size
      have HX : Hid (inS 2 x = true) := by rw [← hx]; exact d3
      have HD : Hid (gk = (gk - 1) + 1 ∧ runesFromL s gk pos = x :: runesFromL s (gk - 1) (pos + n)) := by
        obtain ⟨g, rfl⟩ : ∃ g, gk = g + 1 := ⟨gk - 1, by omega⟩
        refine ⟨rfl, ?_⟩
        rw [runesFromL, if_pos hlt, hx, hn]; rfl
      rw [hn] at d1 d2
      clear d3 hx hn hit hg HO hg1
      go_wp2_with (at_builtin; refine wp_app kRune (W := W1) (w0 := w) (row0 := none) (w.heap.size + 1) rfl _ _ _ 21 (.int .i32 0) 4 rfl Tryz.underlying23 info21 rfl ⟨by decide, by decide⟩ u3 acc x #[.int .i32 x] rfl rfl HO1 ⟨rfl, inS_I32 HX.out⟩ hg2 ?c1 ?c2 ?_)
      case c1 => exact ⟨by omega, by omega⟩
      case c2 => omega
      intro v1 w1 HO2 hg3 hg4
      have hit2 : w1.heap[w.heap.size]? = some (.stringIter s (pos + n)) := by
        rw [hg4.block _ (by omega) (by intro e; have := HO1.base _ e.symm; omega)]; exact hit1
      clear HO1 hg4 hit1 hg2
      go_wp2
      go_roundg (gk - 1)
      case measure => omega
      case rel =>
        exact ⟨pos + n, acc ++ [x], by simp; omega, by omega, by omega, hit2, HO2, hg3, by rw [List.append_assoc, List.singleton_append, ← HD.out.2]; exact HR.out⟩
    · have hnx : ∀ ty, (Instr.next (.pointer (some ⟨w.heap.size, 0, none⟩)) true ty).run Tryz.prog wr = _ := fun ty => Lib.run_next_end_at wr w.heap.size s pos ty hit hlt
      obtain ⟨A, c, rfl, hc, hC⟩ := HO.reads (by unfold maxN; omega)
      have HTY := Lib.hid HO.typed
      have hR : acc = runesOf s := by
        have := HR.out
        cases gk with
        | zero => simpa [runesFromL] using this
        | succ g => rwa [runesFromL, if_neg hlt, List.append_nil] at this
      have HR2 := Lib.hid hR
      clear hit HO hR
      go_wp2
      go_ret
      rw [← HR2.out]
      exact ⟨A, c, rfl, hc, hC, hg, HTY.out⟩
end Go.Proofs.YtocfmjiollafaaaGreatDoor
