import Derived.Test.YtocfmjiollafaaaGreatDoorProg
import Derived.Test.YtocfmjiollafaaaGreatDoorMir
import Derived.Deep.QuietTactic
import Derived.BigQuiet
import Derived.Deep.LoopGhost
import Derived.Lib.OthersKept
namespace Go.Proofs.YtocfmjiollafaaaGreatDoor
open Go.RowKit
set_option linter.unusedVariables false
set_option linter.unusedSimpArgs false
def RetB (w : World) (b : Bool) (e : Ending) (w' : World) : Prop := e = .returned (.bool b) ∧ w = w'
theorem RetB.mk {w : World} {a b : Bool} (h : a = b) : RetB w b (.returned (.bool a)) w := ⟨by rw [h], rfl⟩
set_option maxHeartbeats 400000 in
theorem In_any (s x : Int) (w : World) : Calls Tryz.prog 55 #[.int .i64 s, .int .i32 x] w (RetB w (inS s x)) := by
  go_enter Tryz.func55, Tryz.ntmps55
  go_wp2
  all_goals
    go_ret
    refine RetB.mk ?_
    simp_all [inS]
    try omega
set_option maxHeartbeats 400000 in
theorem Fits_any (s : Int) (l : List Int) (A : Option Addr) (c : Nat) (ok : Nat → Prop) (w : World) (h : kRune.C w ok A l) : Calls Tryz.prog 32 #[.int .i64 s, .slice A l.length c] w (RetB w (fitsM s l)) := by
  have hl := h.1; unfold maxN at hl
  have H := Lib.hid h; clear h
  go_enter Tryz.func32, Tryz.ntmps32
  go_wp2
  go_loop [9] (fun i => ∃ k : Nat, k ≤ l.length ∧ i = .int .i64 k ∧ Hid (fitsM s (l.drop k) = fitsM s l)) (fun i => l.length - (intOf i).toNat)
  case atStart => exact ⟨0, by omega, rfl, rfl⟩
  case round =>
    obtain ⟨k, hk, rfl, HK⟩ := hrel
    by_cases hlt : k < l.length
    · obtain ⟨b, o, x, rfl, hb, hx, hr, hg, HD⟩ := H.out.rune k hlt
      clear hg
      have HE : Hid (fitsM s l = (inS s x && fitsM s (l.drop (k + 1)))) := by
        rw [← HK.out, HD.out]; rfl
      go_wp2_with (go_at_call 55; refine (In_any _ _ _).mono ?_; rintro e w' ⟨rfl, rfl⟩)
      · have hin : (!inS s x) = true := by assumption
        rw [Bool.not_eq_true'] at hin
        go_ret
        exact RetB.mk (by rw [HE.out, hin]; rfl)
      · have hin : (!inS s x) = false := by assumption
        rw [Bool.not_eq_false'] at hin
        go_round
        case rel => exact ⟨k + 1, by omega, by go_num, by rw [HE.out, hin]; rfl⟩
        case measure => simp [intOf]; omega
    · go_wp2
      go_ret
      obtain rfl : k = l.length := by omega
      exact RetB.mk (by rw [← HK.out, List.drop_length]; rfl)
/-- How a function ends that hands a slice back, in memory that lives. -/
def SlRet {α : Type} (d : Kd α) (w : World) (xs : List α) (e : Ending) (w' : World) : Prop := ∃ A c, e = .returned (.slice A xs.length c) ∧ xs.length ≤ c ∧ d.C w' (live w') A xs ∧ w.grownBy w' none
set_option maxHeartbeats 400000 in
theorem Domain_any (s : Int) (w : World) : Calls Tryz.prog 54 #[.int .i64 s] w (SlRet kSp w (domS s)) := by
  go_enter Tryz.func54, Tryz.ntmps54
  go_wp2
  · go_ret
    have h : (s == 1) = true := by assumption
    have : domS s = [⟨0, 255⟩] := by simp [domS, eq_of_beq h]
    rw [this]
    exact ⟨_, _, rfl, Nat.le_refl _, Kd.C_lit kSp w _ _ _ [⟨0, 255⟩] [[.int .i64 0, .int .i64 255]] rfl (.cons ⟨rfl, by decide, by decide⟩ .nil) (by decide), World.grownBy_alloc _ _ _⟩
  · go_ret
    have h : (s == 2) = true := by assumption
    have : domS s = [⟨0, 55295⟩, ⟨57344, 1114111⟩] := by simp [domS, eq_of_beq h]
    rw [this]
    exact ⟨_, _, rfl, Nat.le_refl _, Kd.C_lit kSp w _ _ _ [⟨0, 55295⟩, ⟨57344, 1114111⟩] [[.int .i64 0, .int .i64 55295], [.int .i64 57344, .int .i64 1114111]] rfl (.cons ⟨rfl, by decide, by decide⟩ (.cons ⟨rfl, by decide, by decide⟩ .nil)) (by decide), World.grownBy_alloc _ _ _⟩
  · go_ret
    have h1 : (s == 1) = false := by assumption
    have h2 : (s == 2) = false := by assumption
    have : domS s = [] := by simp at h1 h2; simp [domS, h1, h2]
    rw [this]
    exact ⟨_, _, rfl, Nat.le_refl _, ⟨by decide, .inl rfl⟩, World.grownBy.refl _ _⟩

theorem info21 : (Tryz.prog.info? 21).map (fun i => (i.zero, i.size, i.bytes)) = some (some (.int .i32 0), 1, 4) := by kernel_rfl
set_option maxHeartbeats 400000 in
theorem Of_any (s : ByteArray) (w : World) (hs : s.size ≤ 1048576) : Calls Tryz.prog 16 #[.string s] w (SlRet kRune w (runesOf s)) := by
  go_enter Tryz.func16, Tryz.ntmps16
  go_wp2
  go_loopg [3] (s.size) (fun b v wr => ∃ pos : Nat, ∃ acc : List Int, acc.length ≤ pos ∧ pos ≤ s.size + 4 ∧ s.size ≤ pos + b ∧ wr.heap[w.heap.size]? = some (.stringIter s pos) ∧ kRune.Own (fun _ => True) wr (w.heap.size + 1) 21 v acc ∧ w.grownBy wr none ∧
    Hid (acc ++ runesFromL s b pos = runesOf s))
  case atStart => exact ⟨0, [], by simp, by omega, by omega, World.iter_heap _ _ _, Kd.Own.nil _ _ _ _ _, World.grownBy_alloc _ _ _, rfl⟩
  case round =>
    obtain ⟨pos, acc, hp, hp4, hb, hit, HO, hg, HR⟩ := hrel
    by_cases hlt : pos < s.size
    · obtain ⟨d1, d2, d3⟩ := decode_cases s pos
      obtain ⟨x, hx⟩ : ∃ x : Int, ((Utf8.decode s pos).1 : Int) = x := ⟨_, rfl⟩
      obtain ⟨n, hn⟩ : ∃ n, (Utf8.decode s pos).2 = n := ⟨_, rfl⟩
      obtain ⟨W1, hnx, hit1, hg1⟩ : ∃ W1 : World, (∀ ty, (Instr.next (.pointer (some ⟨w.heap.size, 0, none⟩)) true ty).run Tryz.prog wr = .ok (.tuple #[.bool true, .int .i64 pos, .int .i32 x]) W1) ∧ W1.heap[w.heap.size]? = some (.stringIter s (pos + n)) ∧ wr.grownBy W1 (some w.heap.size) :=
        ⟨wr.iterAt w.heap.size s (pos + n), fun ty => by rw [← hx, ← hn]; exact Lib.run_next_any_at wr w.heap.size s pos ty hit hlt, Lib.iterAt_heap _ _ _ _ _ hit, ⟨rfl, rfl, rfl, by rw [Lib.iterAt_size]; omega, fun k hk hne => Lib.iterAt_other _ _ _ _ _ (by intro e; subst e; exact hne rfl)⟩⟩
      have hwsz := (Array.getElem?_eq_some_iff.1 hit).1
      have HO1 : kRune.Own (fun _ => True) W1 (w.heap.size + 1) 21 u3 acc := HO.keptP (plain_int _ _) hg1 (by intro k hk; cases hk; omega)
      have hg2 : w.grownBy W1 none := grown_own hg hg1 (by intro k hk; cases hk; omega)
      have hsz1 := hg1.size
      have HX : Hid (inS 2 x = true) := by rw [← hx]; exact d3
      have HD : Hid (gk = (gk - 1) + 1 ∧ runesFromL s gk pos = x :: runesFromL s (gk - 1) (pos + n)) := by
        obtain ⟨g, rfl⟩ : ∃ g, gk = g + 1 := ⟨gk - 1, by omega⟩
        refine ⟨rfl, ?_⟩
        rw [runesFromL, if_pos hlt, hx, hn]; rfl
      rw [hn] at d1 d2
      clear d3 hx hn hit hg HO hg1
      go_wp2_with (at_builtin; refine wp_app kRune (W := W1) (w0 := w) (row0 := none) (w.heap.size + 1) rfl _ _ _ 21 (.int .i32 0) 4 rfl Tryz.underlying23 info21 rfl ⟨by decide, by decide⟩ u3 acc x #[.int .i32 x] rfl rfl HO1 ⟨rfl, inS_I32 HX.out⟩ hg2 ?c1 ?c2 ?_)
      case c1 => exact ⟨by omega, by omega⟩
      case c2 => omega
      intro v1 w1 HO2 hg3 hg4
      have hit2 : w1.heap[w.heap.size]? = some (.stringIter s (pos + n)) := by
        rw [hg4.block _ (by omega) (by intro e; have := HO1.base _ e.symm; omega)]; exact hit1
      clear HO1 hg4 hit1 hg2
      go_wp2
      go_roundg (gk - 1)
      case measure => omega
      case rel =>
        exact ⟨pos + n, acc ++ [x], by simp; omega, by omega, by omega, hit2, HO2, hg3, by rw [List.append_assoc, List.singleton_append, ← HD.out.2]; exact HR.out⟩
    · have hnx : ∀ ty, (Instr.next (.pointer (some ⟨w.heap.size, 0, none⟩)) true ty).run Tryz.prog wr = _ := fun ty => Lib.run_next_end_at wr w.heap.size s pos ty hit hlt
      obtain ⟨A, c, rfl, hc, hC⟩ := HO.reads (by unfold maxN; omega)
      have hR : acc = runesOf s := by
        have := HR.out
        cases gk with
        | zero => simpa [runesFromL] using this
        | succ g => rwa [runesFromL, if_neg hlt, List.append_nil] at this
      have HR2 := Lib.hid hR
      clear hit HO hR
      go_wp2
      go_ret
      rw [← HR2.out]
      exact ⟨A, c, rfl, hc, hC, hg⟩
end Go.Proofs.YtocfmjiollafaaaGreatDoor
