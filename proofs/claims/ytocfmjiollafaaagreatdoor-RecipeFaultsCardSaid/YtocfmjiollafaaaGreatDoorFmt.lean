import Derived.Test.YtocfmjiollafaaaGreatDoorProg
import Derived.Test.YtocfmjiollafaaaGreatDoorTxt
import Derived.Lib.LaidTab
import Derived.Laws.IdiomStrings
import Derived.Deep.QuietTactic
import Derived.BigQuiet
import Derived.Outline
namespace Go.Proofs.YtocfmjiollafaaaGreatDoor
open Go.RowKit
set_option linter.unusedVariables false
set_option linter.unusedSimpArgs false
/-- the one entry of math/bits' table that base 16 comes to -/
theorem tzkey : IntKind.u64.wrap (bits BinOp.and IntKind.u64 16 (IntKind.u64.wrap (-16)) * 285870213051353865) / 288230376151711744 = 15 := by kernel_rfl
theorem tz16 (w : World) (h : w.cell? ⟨3, 15, none⟩ = some (.int .u8 4)) : Calls Tryz.prog 115 #[.int .u64 16] w (fun e w' => e = .returned (.int .i64 4) ∧ w = w') := by
  have key := tzkey
  go_enter Tryz.func115, Tryz.ntmps115
  go_wp2
  go_ret
  exact ⟨rfl, rfl⟩
theorem pow16 (w : World) : Calls Tryz.prog 114 #[.int .i64 16] w (fun e w' => e = .returned (.bool true) ∧ w = w') := by
  have key : bits BinOp.and IntKind.i64 16 15 = 0 := by kernel_rfl
  go_enter Tryz.func114, Tryz.ntmps114
  go_wp2
  go_ret
  exact ⟨rfl, rfl⟩
theorem tz_lt {w : World} {v : Value} (h : w.cell? ⟨3, 15, none⟩ = some v) : 3 < w.heap.size := by
  simp only [World.cell?] at h
  cases h2 : w.heap[3]? with
  | none => rw [h2] at h; cases h
  | some o => exact (Array.getElem?_eq_some_iff.1 h2).1
theorem tz_kept {w w' : World} {v : Value} (h : w.cell? ⟨3, 15, none⟩ = some v) (hg : w'.heap[3]? = w.heap[3]?) : w'.cell? ⟨3, 15, none⟩ = some v := by
  rw [World.cell?_of_block (w := w) (w' := w') hg]; exact h
theorem tz_alloc {w : World} {v : Value} (h : w.cell? ⟨3, 15, none⟩ = some v) (o : Obj) : (w.alloc o).cell? ⟨3, 15, none⟩ = some v :=
  tz_kept h ((World.grownBy_alloc w o none).block 3 (tz_lt h) (by simp))
theorem conv1 (w : World) (C : Array Value) (t : TypeId) (g o : Nat) (b : UInt8) (cap : Nat) (h : w.heap[g]? = some (.cells C t (0, 0))) (hb : C[o]? = some (.int .u8 (b.toNat : Int))) :
    (convert 66 9 (.slice (some ⟨g, o, none⟩) 1 cap)).run Tryz.prog w = .ok (.string ⟨#[b]⟩) w := by
  refine run_convert_bytes_back (P := Tryz.prog) w 66 9 5 ⟨g, o, none⟩ cap [b] Tryz.underlying66 Tryz.underlying5 Tryz.underlying9 fun j hj => ?_
  have hj0 : j = 0 := by simpa using hj
  subst hj0
  rw [add_plain2, (cells_at h _).1]; exact hb
theorem conv2 (w : World) (C : Array Value) (t : TypeId) (g o : Nat) (b c : UInt8) (cap : Nat) (h : w.heap[g]? = some (.cells C t (0, 0))) (hb : C[o]? = some (.int .u8 (b.toNat : Int))) (hc : C[o + 1]? = some (.int .u8 (c.toNat : Int))) :
    (convert 66 9 (.slice (some ⟨g, o, none⟩) 2 cap)).run Tryz.prog w = .ok (.string ⟨#[b, c]⟩) w := by
  refine run_convert_bytes_back (P := Tryz.prog) w 66 9 5 ⟨g, o, none⟩ cap [b, c] Tryz.underlying66 Tryz.underlying5 Tryz.underlying9 fun j hj => ?_
  have hj0 : j = 0 ∨ j = 1 := by simp at hj; omega
  rcases hj0 with rfl | rfl
  · rw [add_plain2, (cells_at h _).1]; exact hb
  · rw [add_plain2, (cells_at h _).1]; exact hc
def hexTab : ByteArray := ⟨#[48, 49, 50, 51, 52, 53, 54, 55, 56, 57, 97, 98, 99, 100, 101, 102, 103, 104, 105, 106, 107, 108, 109, 110, 111, 112, 113, 114, 115, 116, 117, 118, 119, 120, 121, 122]⟩
def hexAt (n : Nat) : UInt8 := hexTab.data.getD n 0
def hexB (x : Int) : List UInt8 := (hexS x).map fun c => c.toNat.toUInt8
theorem hexget (n : Nat) (h : n < 36) : hexTab[n]'h = hexAt n := by
  show hexTab.data[n] = _
  unfold hexAt
  rw [Array.getD_eq_getD_getElem?, Array.getElem?_eq_getElem h]; rfl
theorem hexB_lo : ∀ n : Fin 16, (hexB (n.val : Int)).toArray = #[hexAt n.val] := by decide
set_option maxRecDepth 100000 in
theorem hexB_hi : ∀ n : Fin 128, 16 ≤ n.val → (hexB (n.val : Int)).toArray = #[hexAt (n.val / 16), hexAt (n.val % 16)] := by decide
set_option maxRecDepth 100000 in
set_option maxHeartbeats 1000000 in
theorem fmt16_lo (n : Nat) (hn : n < 16) (w : World) (h : w.cell? ⟨3, 15, none⟩ = some (.int .u8 4)) : Calls Tryz.prog 96 #[.slice none 0 0, .int .u64 n, .int .i64 16, .bool false, .bool false] w (fun e w' => e = .returned (.tuple #[.slice none 0 0, .string ⟨(hexB n).toArray⟩]) ∧ w.grownBy w' none) := by
  go_enter Tryz.func96, Tryz.ntmps96
  go_wp2_with (first
    | (go_at_call 115; refine (tz16 _ (tz_alloc h _)).mono ?_; rintro e w' ⟨rfl, rfl⟩)
    | (go_at_call 114; refine (pow16 _).mono ?_; rintro e w' ⟨rfl, rfl⟩))
  go_loop [1, 13] (fun u i => u = .int .u64 (n : Int) ∧ i = .int .i64 65) (fun _ _ => 0)
  case atStart => exact ⟨rfl, rfl⟩
  case round =>
    obtain ⟨rfl, rfl⟩ := hrel
    have hge : ¬ (16 : Int) ≤ (n : Int) := by omega
    go_wp2_with fail
    rw [conv1 (w.alloc _) _ 136 w.heap.size 64 (hexAt n) 1 (heap_alloc_new _ _) ?h]
    case h =>
      rw [Array.getElem?_setIfInBounds_self_of_lt (of_decide_eq_true (by kernel_rfl))]
      exact congrArg (fun b : UInt8 => some (Value.int .u8 (b.toNat : Int))) (hexget n (by omega))
    have HB := Lib.hid (hexB_lo ⟨n, hn⟩)
    go_wp2_with fail
    go_ret2
    rw [HB.out]
    refine ⟨rfl, World.grownBy_alloc _ _ _⟩
theorem and15 (n : Nat) (h : n < 128) : bits BinOp.and IntKind.u64 (n : Int) 15 = ((n % 16 : Nat) : Int) := by
  have : ∀ m : Fin 128, bits BinOp.and IntKind.u64 (m.val : Int) 15 = ((m.val % 16 : Nat) : Int) := by decide
  exact this ⟨n, h⟩
set_option maxRecDepth 100000 in
set_option maxHeartbeats 1000000 in
theorem fmt16_hi (n : Nat) (hn : 16 ≤ n) (hn2 : n < 128) (w : World) (h : w.cell? ⟨3, 15, none⟩ = some (.int .u8 4)) : Calls Tryz.prog 96 #[.slice none 0 0, .int .u64 n, .int .i64 16, .bool false, .bool false] w (fun e w' => e = .returned (.tuple #[.slice none 0 0, .string ⟨(hexB n).toArray⟩]) ∧ w.grownBy w' none) := by
  have hb : bits BinOp.and IntKind.u64 (n : Int) 15 = ((n % 16 : Nat) : Int) := and15 n (by omega)
  go_enter Tryz.func96, Tryz.ntmps96
  go_wp2_with (first
    | (go_at_call 115; refine (tz16 _ (tz_alloc h _)).mono ?_; rintro e w' ⟨rfl, rfl⟩)
    | (go_at_call 114; refine (pow16 _).mono ?_; rintro e w' ⟨rfl, rfl⟩))
  refine wp_loop_rounds 2 ?_
  rw [rounds_succ]
  go_wp2_with fail
  rw [rounds_succ]
  have hge : ¬ (16 : Int) ≤ (n : Int) / 16 := by omega
  go_wp2_with fail
  rw [conv2 (w.alloc _) _ 136 w.heap.size 63 (hexAt (n / 16)) (hexAt (n % 16)) 2 (heap_alloc_new _ _) ?h1 ?h2]
  case h1 =>
    rw [Array.getElem?_setIfInBounds_self_of_lt (by rw [Array.size_setIfInBounds]; exact of_decide_eq_true (by kernel_rfl))]
    exact congrArg (fun b : UInt8 => some (Value.int .u8 (b.toNat : Int))) (hexget (n / 16) (by omega))
  case h2 =>
    rw [Array.getElem?_setIfInBounds_ne (by decide), Array.getElem?_setIfInBounds_self_of_lt (of_decide_eq_true (by kernel_rfl))]
    exact congrArg (fun b : UInt8 => some (Value.int .u8 (b.toNat : Int))) (hexget (n % 16) (by omega))
  have HB := Lib.hid (hexB_hi ⟨n, hn2⟩ hn)
  go_wp2_with fail
  go_ret2
  rw [HB.out]
  refine ⟨rfl, World.grownBy_alloc _ _ _⟩
theorem fmt16 (n : Nat) (hn2 : n < 128) (w : World) (h : w.cell? ⟨3, 15, none⟩ = some (.int .u8 4)) : Calls Tryz.prog 96 #[.slice none 0 0, .int .u64 n, .int .i64 16, .bool false, .bool false] w (fun e w' => e = .returned (.tuple #[.slice none 0 0, .string ⟨(hexB n).toArray⟩]) ∧ w.grownBy w' none) := by
  by_cases hn : n < 16
  · exact fmt16_lo n hn w h
  · exact fmt16_hi n (by omega) hn2 w h
set_option maxHeartbeats 400000 in
theorem FormatInt16 (x : Int) (h0 : 0 ≤ x) (h1 : x < 128) (w : World) (h : w.cell? ⟨3, 15, none⟩ = some (.int .u8 4)) : Calls Tryz.prog 74 #[.int .i64 x, .int .i64 16] w (fun e w' => e = .returned (.string ⟨(hexB x).toArray⟩) ∧ w.grownBy w' none) := by
  obtain ⟨n, rfl⟩ : ∃ n : Nat, x = (n : Int) := ⟨x.toNat, by omega⟩
  have h87 : Calls Tryz.prog 87 #[.int .i64 (n : Int), .int .i64 16] w (fun e w' => e = .returned (.string ⟨(hexB n).toArray⟩) ∧ w.grownBy w' none) := by
    go_enter Tryz.func87, Tryz.ntmps87
    go_wp2_with (go_at_call 96; refine (fmt16 n (by omega) _ (by first | exact h | exact tz_alloc h _)).mono ?_; rintro e w' ⟨rfl, hg⟩)
    go_ret
    exact ⟨rfl, hg⟩
  have HH := Lib.hid h87
  clear h87
  go_enter Tryz.func74, Tryz.ntmps74
  go_wp2_with (go_at_call 87; refine HH.out.mono ?_; rintro e w' ⟨rfl, hg⟩)
  go_ret
  exact ⟨rfl, hg⟩
end Go.Proofs.YtocfmjiollafaaaGreatDoor
