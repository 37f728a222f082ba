import Derived.Test.YtocfmjiollafaaaGreatDoorNrm
import Derived.Test.YtocfmjiollafaaaGreatDoorStr
import Derived.Deep.RegionWith
import Derived.Deep.LoopGhost
import Derived.Deep.DeepCutAuto
import Derived.Deep.CutBlock
import Derived.BigRegion
namespace Go.Proofs.YtocfmjiollafaaaGreatDoor
open Go.RowKit
set_option linter.unusedVariables false
set_option linter.unusedSimpArgs false
attribute [local go_sem] max_rule min_rule
variable {α : Type}
/-- memory that is new since a world -/
def fresh (w w' : World) : Nat → Prop := fun k => w.heap.size ≤ k ∧ k < w'.heap.size
/-- How a function ends that hands a slice back, in memory that is new. -/
def SlNew {α : Type} (d : Kd α) (w : World) (xs : List α) (e : Ending) (w' : World) : Prop := ∃ A c, e = .returned (.slice A xs.length c) ∧ xs.length ≤ c ∧ d.C w' (fresh w w') A xs ∧ w.grownBy w' none
theorem SlNew.ret {d : Kd α} {w : World} {xs : List α} {e : Ending} {w' : World} : SlNew d w xs e w' → SlRet d w xs e w' := by
  rintro ⟨A, c, h1, h2, h3, h4⟩
  exact ⟨A, c, h1, h2, h3.step (fun k hk => ⟨hk.2, rfl⟩), h4⟩
theorem SlNew.before {d : Kd α} {w0 w : World} {xs : List α} {e : Ending} {w' : World} (hg : w0.grownBy w none) : SlNew d w xs e w' → SlNew d w0 xs e w' := by
  rintro ⟨A, c, h1, h2, h3, h4⟩
  exact ⟨A, c, h1, h2, h3.step (fun k hk => ⟨⟨Nat.le_trans hg.size hk.1, hk.2⟩, rfl⟩), hg.trans h4⟩
theorem Kd.C.okP {d : Kd α} (hd : d.Plain) {w : World} {ok ok' : Nat → Prop} {A : Option Addr} {xs : List α} (h : d.C w ok A xs) (hA : ∀ b o, A = some ⟨b, o, none⟩ → ok' b) : d.C w ok' A xs := by
  refine ⟨h.1, h.2.imp_right ?_⟩
  rintro ⟨b, o, rfl, _, hat⟩
  refine ⟨b, o, rfl, hA b o rfl, fun i hi => ?_⟩
  obtain ⟨cs, hK, hcs⟩ := hat i hi
  exact ⟨cs, hd _ _ _ _ _ _ hK, hcs⟩
set_option maxHeartbeats 400000 in
theorem Scalars_new (w : World) : Calls Tryz.prog 54 #[.int .i64 2] w (SlNew kSp w [⟨0, 55295⟩, ⟨57344, 1114111⟩]) := by
  go_enter Tryz.func54, Tryz.ntmps54
  go_wp2
  go_ret
  exact ⟨_, _, rfl, Nat.le_refl _, (Kd.C_lit kSp w _ _ _ [⟨0, 55295⟩, ⟨57344, 1114111⟩] [[.int .i64 0, .int .i64 55295], [.int .i64 57344, .int .i64 1114111]] rfl (.cons ⟨rfl, by decide, by decide⟩ (.cons ⟨rfl, by decide, by decide⟩ .nil)) (by decide)).okP plain_sp (by rintro b o ⟨⟩; exact ⟨Nat.le_refl _, by simp⟩), World.grownBy_alloc _ _ _⟩
/-- Norm, read back. -/
theorem Norm_read (l : List Sp) (A : Option Addr) (c : Nat) (ok : Nat → Prop) (w : World) (hl : l.length ≤ 1000000) (hc : l.length ≤ c) (h : kSp.C w ok A l) :
    Calls Tryz.prog 70 #[.slice A l.length c] w (SlRet kSp w (normM l)) :=
  (Norm_any l A c ok w hl hc h).mono fun e w' ⟨v, he, hO, hg⟩ => by
    obtain ⟨A, c, rfl, hc, hC⟩ := hO.reads (by have := normM_len l; unfold maxN; omega)
    exact ⟨A, c, he, hc, hC, hg⟩
theorem Kd.C.tail {d : Kd α} {w : World} {ok : Nat → Prop} {b o : Nat} {x : α} {xs : List α} (h : d.C w ok (some ⟨b, o, none⟩) (x :: xs)) : d.C w ok (some ⟨b, o + d.sz, none⟩) xs := by
  obtain ⟨hl, h⟩ := h
  refine ⟨by simp at hl; omega, ?_⟩
  rcases h with h | ⟨b', o', hA, hb, hc⟩
  · cases h
  · cases hA
    refine .inr ⟨b, o + d.sz, rfl, hb, fun i hi => ?_⟩
    have := hc (i + 1) (by simp; omega)
    rw [Nat.succ_mul, show o + (i * d.sz + d.sz) = o + d.sz + i * d.sz by omega] at this
    simpa using this
theorem C_len0 {d : Kd α} {w : World} {ok : Nat → Prop} {A : Option Addr} {xs : List α} (h : xs.length = 0) : d.C w ok A xs := by
  obtain rfl := List.eq_nil_of_length_eq_zero h; exact Kd.C_nil _ _ _ _
theorem Kd.C.live {d : Kd α} {w w' : World} {A : Option Addr} {xs : List α} (h : d.C w (Proofs.YtocfmjiollafaaaGreatDoor.live w) A xs) (hg : w.grownBy w' none) : d.C w' (Proofs.YtocfmjiollafaaaGreatDoor.live w') A xs := h.step (live_step hg)
set_option maxRecDepth 100000 in
set_option maxHeartbeats 2000000 in
theorem Meet_new (l m : List Sp) (A B : Option Addr) (c e : Nat) (w : World) (hl : l.length ≤ 1000000) (hm : m.length ≤ 1000000) (hc : l.length ≤ c) (he : m.length ≤ e) (h : kSp.C w (live w) A l) (h' : kSp.C w (live w) B m) :
    Calls Tryz.prog 86 #[.slice A l.length c, .slice B m.length e] w (SlNew kSp w (meetM l m)) := by
  have H := Lib.hid h; have H' := Lib.hid h'; clear h h'
  go_enter Tryz.func86, Tryz.ntmps86
  go_wp2_with fail
  refine (Norm_read l A c _ w hl hc H.out).mono ?_
  rintro e1 w1 ⟨A1, c1, rfl, hc1, hC1, hg1⟩
  have C1 := Lib.hid hC1; clear hC1
  go_wp2_with fail
  refine (Norm_read m B e _ w1 hm he (H'.out.live hg1)).mono ?_
  rintro e2 w2 ⟨A2, c2, rfl, hc2, hC2, hg2⟩
  have hg := hg1.trans hg2
  have C2 := Lib.hid hC2; have C3 := Lib.hid (C1.out.live hg2)
  have ln := normM_len l; have lm := normM_len m
  clear hC2 C1 hg1 hg2
  obtain ⟨N, hN⟩ : ∃ N, normM l = N := ⟨_, rfl⟩
  obtain ⟨M, hM⟩ : ∃ M, normM m = M := ⟨_, rfl⟩
  have HR : Hid (meetM l m = meetGo (N.length + M.length) N M) := by show _ = _; rw [← hN, ← hM]; rfl
  rw [hN] at hc1 C3 ln ⊢; rw [hM] at hc2 C2 lm ⊢
  clear hN hM
  go_wp2_with fail
  go_loopg [0, 1, 5] (N.length + M.length) (fun k va vb vo wr => ∃ Aa ca a Ab cb b acc, va = .slice Aa a.length ca ∧ vb = .slice Ab b.length cb ∧ a.length ≤ ca ∧ b.length ≤ cb ∧ k = a.length + b.length ∧ acc.length + a.length + b.length ≤ 2000000 ∧
    kSp.C w2 (live w2) Aa a ∧ kSp.C w2 (live w2) Ab b ∧ kSp.Own (fun _ => True) wr w2.heap.size 83 vo acc ∧ w2.grownBy wr none ∧ Hid (acc ++ meetGo k a b = meetM l m))
  case atStart => exact ⟨A1, c1, N, A2, c2, M, [], rfl, rfl, hc1, hc2, rfl, by simp; omega, C3.out, C2.out, Kd.Own.nil _ _ _ _ _, World.grownBy.refl _ _, HR.out.symm⟩
  case round =>
    obtain ⟨Aa, ca, a, Ab, cb, b, acc, rfl, rfl, ha, hb, hk, hacc, hCa, hCb, HO, hgr, HM⟩ := hrel
    have CA := Lib.hid hCa; have CB := Lib.hid hCb; have HK := Lib.hid hk
    clear hCa hCb hk
    by_cases hab : a = [] ∨ b = []
    · have hfin : Hid (acc = meetM l m) := by
        show _ = _
        rw [← HM.out]
        cases gk with
        | zero => simp [meetGo]
        | succ g =>
          cases a with
          | nil => simp [meetGo]
          | cons x a =>
            cases b with
            | nil => simp [meetGo]
            | cons y b => rcases hab with h | h <;> cases h
      obtain ⟨Ao, co, rfl, hco, hCo⟩ := HO.readsP plain_sp (fresh w wr) (fun k h1 h2 => ⟨Nat.le_trans hg.size h1, h2⟩) (by unfold maxN; omega)
      have CO := Lib.hid hCo
      have hlen : (a.length : Int) ≤ 0 ∨ (0 < (a.length : Int) ∧ (b.length : Int) ≤ 0) := by
        rcases hab with rfl | rfl
        · left; simp
        · by_cases h0 : a.length = 0
          · left; omega
          · right; simp; omega
      clear HO hCo hab
      rcases hlen with h1 | ⟨h1, h2⟩
      all_goals
        go_wp2_with fail
        go_ret
        rw [← hfin.out]
        exact ⟨Ao, co, rfl, hco, CO.out, hg.trans hgr⟩
    · cases a with
      | nil => exact absurd (.inl rfl) hab
      | cons x a =>
      cases b with
      | nil => exact absurd (.inr rfl) hab
      | cons y b =>
        have hst := live_step hgr
        obtain ⟨b1, o1, x1, rfl, hb1, cx0, cx1, hx0, hx1, hgx, _⟩ := (CA.out.step (ok' := fun _ => True) (fun k hk => ⟨trivial, (hst k hk).2⟩)).sp 0 (by simp)
        obtain ⟨b2, o2, y1, rfl, hb2, cy0, cy1, hy0, hy1, hgy, _⟩ := (CB.out.step (ok' := fun _ => True) (fun k hk => ⟨trivial, (hst k hk).2⟩)).sp 0 (by simp)
        obtain rfl : x = x1 := by simpa using hgx
        obtain rfl : y = y1 := by simpa using hgy
        simp only [Nat.zero_mul, Nat.add_zero] at cx0 cx1 cy0 cy1
        simp only [List.length_cons] at ha hb hacc ⊢
        have hlt1 : b1 < wr.heap.size := World.block_lt_of_cell? wr _ cx0
        have hlt2 : b2 < wr.heap.size := World.block_lt_of_cell? wr _ cy0
        clear hst hgx hgy hab hb1 hb2
        obtain ⟨z, hz⟩ : ∃ z, meetS x y = z := ⟨_, rfl⟩
        have hz0 : mxI x.lo y.lo = z.lo := by rw [← hz]; rfl
        have hz1 : mnI x.hi y.hi = z.hi := by rw [← hz]; rfl
        have hzI : I64 z.lo ∧ I64 z.hi := by
          rw [← hz]
          constructor
          · show I64 (mxI x.lo y.lo); unfold mxI; split <;> assumption
          · show I64 (mnI x.hi y.hi); unfold mnI; split <;> assumption
        go_upto_region 4 with (fail)
        go_cut [6] (fun p w3 => p = .pointer (some ⟨wr.heap.size, 0, none⟩) ∧ w3.heap[wr.heap.size]? = some (.cells #[.int .i64 z.lo, .int .i64 z.hi] 83 (0, 0)) ∧ wr.grownBy w3 none)
        case first =>
          go_region
          go_wp2_with fail
          go_meet
          case rel => exact ⟨rfl, heap_alloc_new wr _, grown_drew (World.grownBy_alloc wr _ _)⟩
        case rest =>
        obtain ⟨w4, hw4⟩ : ∃ w4, w4 = wc := ⟨_, rfl⟩
        subst hw4
        obtain ⟨rfl, hbx, hg4⟩ := hcut
        have hZ := Lib.hid hz
        have HO4 := HO.keep hg4
        have hg5 := hgr.trans hg4
        have hsz2 := hgr.size
        have kz0 := cells_at hbx 0; have kz1 := cells_at hbx 1
        simp at kz0 kz1
        clear hz hz0 hz1 HO hbx hg4 hgr hlt1 hlt2 cx0 cx1 cy0 cy1
        go_upto_if 42 with (fail)
        go_cut [5] (fun vo w5 => kSp.Own (fun _ => True) w5 w2.heap.size 83 vo (acc ++ if z.lo ≤ z.hi then [z] else []) ∧ w2.grownBy w5 none)
        case first =>
          by_cases hzz : z.lo ≤ z.hi
          · go_wp2_with (at_builtin; refine wp_app kSp (W := w4) (w0 := w2) (row0 := none) w2.heap.size rfl _ _ _ 83 (.agg #[.int .i64 0, .int .i64 0]) 16 rfl Tryz.underlying22 info83 rfl ⟨by decide, by decide⟩ u5 acc z #[.int .i64 z.lo, .int .i64 z.hi] rfl rfl HO4 ⟨rfl, hzI⟩ hg5 ⟨Nat.le_refl _, hg5.size⟩ (by omega) ?_)
            intro v1 w1 HO5 hg6 _
            go_wp2_with fail
            go_meet
            case rel => rw [if_pos hzz]; exact ⟨HO5, hg6⟩
          · go_wp2_with fail
            go_meet
            case rel => rw [if_neg (by omega), List.append_nil]; exact ⟨HO4, hg5⟩
        case rest =>
        obtain ⟨w5, hw5⟩ : ∃ w5, w5 = wc := ⟨_, rfl⟩
        subst hw5
        obtain ⟨HO5, hgr⟩ := hcut
        clear HO4 hg5 hsz2 kz0 kz1
        have hst := live_step hgr
        obtain ⟨_, _, x1, hA, _, cx0, cx1, _, _, hgx, _⟩ := (CA.out.step (ok' := fun _ => True) (fun k hk => ⟨trivial, (hst k hk).2⟩)).sp 0 (by simp)
        cases hA
        obtain ⟨_, _, y1, hA, _, cy0, cy1, _, _, hgy, _⟩ := (CB.out.step (ok' := fun _ => True) (fun k hk => ⟨trivial, (hst k hk).2⟩)).sp 0 (by simp)
        cases hA
        obtain rfl : x = x1 := by simpa using hgx
        obtain rfl : y = y1 := by simpa using hgy
        simp only [Nat.zero_mul, Nat.add_zero] at cx0 cx1 cy0 cy1
        clear hst hgx hgy
        go_wp2_with fail
        go_quiet (fail)
        have HKK : Hid (gk = (gk - 1) + 1) := by have := HK.out; simp at this; show _ = _; omega
        have HMM : Hid ((acc ++ if z.lo ≤ z.hi then [z] else []) ++ (if x.hi < y.hi then meetGo (gk - 1) a (y :: b) else meetGo (gk - 1) (x :: a) b) = meetM l m) := by
          show _ = _
          rw [← HM.out, HKK.out, meetGo, hZ.out, Nat.add_sub_cancel, List.append_assoc]
        have hlen : (acc ++ if z.lo ≤ z.hi then [z] else []).length ≤ acc.length + 1 := by split <;> simp
        by_cases hxy : x.hi < y.hi
        · go_wp2_with fail
          all_goals
            go_roundg (gk - 1)
            case measure => have := HKK.out; omega
            case rel => exact ⟨_, _, a, _, _, y :: b, _, rfl, rfl, by omega, by simp; omega, by have := HK.out; simp at this; simp; omega, by simp only [List.length_cons]; omega, (by first | exact CA.out.tail | exact C_len0 (by omega)), CB.out, HO5, hgr.trans (grown_drewN _ _ _), by have := HMM.out; rwa [if_pos hxy] at this⟩
        · go_wp2_with fail
          all_goals
            go_roundg (gk - 1)
            case measure => have := HKK.out; omega
            case rel => exact ⟨_, _, x :: a, _, _, b, _, rfl, rfl, by simp; omega, by omega, by have := HK.out; simp at this; simp; omega, by simp only [List.length_cons]; omega, CA.out, (by first | exact CB.out.tail | exact C_len0 (by omega)), HO5, hgr.trans (grown_drewN _ _ _), by have := HMM.out; rwa [if_neg (show ¬ x.hi < y.hi by omega)] at this⟩
theorem Meet_any (l m : List Sp) (A B : Option Addr) (c e : Nat) (w : World) (hl : l.length ≤ 1000000) (hm : m.length ≤ 1000000) (hc : l.length ≤ c) (he : m.length ≤ e) (h : kSp.C w (live w) A l) (h' : kSp.C w (live w) B m) :
    Calls Tryz.prog 86 #[.slice A l.length c, .slice B m.length e] w (SlRet kSp w (meetM l m)) := (Meet_new l m A B c e w hl hm hc he h h').mono fun _ _ => SlNew.ret
theorem gapsGo_snoc (l : List Sp) (x : Sp) : ∀ f, gapsGo f (l ++ [x]) = (gapsGo f l).dropLast ++ [⟨((gapsGo f l).getLast?.map Sp.lo).getD 0, x.lo - 1⟩, ⟨x.hi + 1, 1073741824⟩] := by
  induction l with
  | nil => intro f; rfl
  | cons y l ih =>
    intro f
    have hne : gapsGo (y.hi + 1) l ≠ [] := by intro h; have := congrArg List.length h; rw [gapsGo_len] at this; simp at this
    simp only [List.cons_append, gapsGo, ih]
    rw [List.dropLast_cons_of_ne_nil hne, List.getLast?_cons_of_ne_nil hne]
    rfl
set_option maxRecDepth 100000 in
set_option maxHeartbeats 2000000 in
theorem Minus_new (l m : List Sp) (A B : Option Addr) (c e : Nat) (w : World) (hl : l.length ≤ 900000) (hm : m.length ≤ 900000) (hc : l.length ≤ c) (he : m.length ≤ e) (h : kSp.C w (live w) A l) (h' : kSp.C w (live w) B m) :
    Calls Tryz.prog 71 #[.slice A l.length c, .slice B m.length e] w (SlNew kSp w (minusM l m)) := by
  have H := Lib.hid h; have H' := Lib.hid h'; clear h h'
  have ln := normM_len m
  have hin := normM_in m
  go_enter Tryz.func71, Tryz.ntmps71
  go_wp2_with fail
  refine (Norm_read m B e _ w (by omega) he H'.out).mono ?_
  rintro e1 w1 ⟨A1, c1, rfl, hc1, hC1, hg1⟩
  obtain ⟨N, hN⟩ : ∃ N, normM m = N := ⟨_, rfl⟩
  obtain ⟨G, hG⟩ : ∃ G, gapsGo (-1073741824) N = G := ⟨_, rfl⟩
  have HR : Hid (minusM l m = meetM l G) := by show _ = _; rw [← hG, ← hN]; rfl
  have hGl : G.length ≤ N.length + 1 := by rw [← hG, gapsGo_len]; exact Nat.le_refl _
  rw [hN] at hc1 hC1 ln hin ⊢
  have HIN := Lib.hid hin
  have C1 := Lib.hid hC1; have HG := Lib.hid hG; clear hC1 hN hin hG
  go_wp2_with fail
  go_loopg [5, 6, 12] N.length (fun k vo vf vi wr => ∃ (i : Nat) (f : Int) (acc : List Sp), i + k = N.length ∧ vi = .int .i64 i ∧ vf = .int .i64 f ∧ -1073741824 ≤ f ∧ f ≤ 1073741825 ∧ acc.length = i ∧ kSp.Own (fun _ => True) wr w1.heap.size 83 vo acc ∧ w1.grownBy wr none ∧ Hid (acc ++ gapsGo f (N.drop i) = G))
  case atStart => exact ⟨0, _, [], by omega, rfl, rfl, by omega, by omega, rfl, Kd.Own.nil _ _ _ _ _, World.grownBy.refl _ _, HG.out⟩
  case round =>
    obtain ⟨i, f, acc, hik, rfl, rfl, hf0, hf1, hacc, HO, hgr, HM⟩ := hrel
    by_cases hlt : i < N.length
    · have hst := live_step hgr
      obtain ⟨b1, o1, x, rfl, hb1, cx0, cx1, hx0, hx1, hgx, HD⟩ := (C1.out.step (ok' := fun _ => True) (fun k hk => ⟨trivial, (hst k hk).2⟩)).sp i hlt
      have hxin := HIN.out x (List.mem_of_getElem? hgx)
      obtain ⟨hx2, hx3, hx4⟩ := hxin
      obtain ⟨xl, hxl⟩ : ∃ xl, x.lo = xl := ⟨_, rfl⟩
      obtain ⟨xh, hxh⟩ : ∃ xh, x.hi = xh := ⟨_, rfl⟩
      have hlt1 : b1 < wr.heap.size := World.block_lt_of_cell? wr _ cx0
      have HX : Hid (acc ++ [⟨f, xl - 1⟩] ++ gapsGo (xh + 1) (N.drop (i + 1)) = G) := by
        show _ = _
        rw [← HM.out, HD.out, gapsGo, hxl, hxh]
        simp
      have haccl : Hid (acc.length = i) := hacc
      have hacc2 : acc.length ≤ i := by omega
      rw [hxl] at cx0 hx2 hx3 hx0; rw [hxh] at cx1 hx3 hx4 hx1
      clear hst hgx hb1 hacc HM hxl hxh
      have HO2 := HO.keep (World.grownBy_alloc wr (.cells #[.int .i64 xl, .int .i64 xh] 83) none)
      have hg2 := hgr.trans (World.grownBy_alloc wr (.cells #[.int .i64 xl, .int .i64 xh] 83) none)
      go_wp2_with (at_builtin; go_must (refine wp_appn kSp (W := wr.alloc (.cells #[.int .i64 xl, .int .i64 xh] 83)) (w0 := w1) (row0 := none) w1.heap.size rfl _ _ _ 83 (.agg #[.int .i64 0, .int .i64 0]) 16 rfl Tryz.underlying22 info83 rfl ⟨by decide, by decide⟩ u5 acc ⟨f, xl - 1⟩ #[.int .i64 f, .int .i64 (xl - 1)] rfl (wr.heap.size + 1) (by simp) rfl HO2 ⟨rfl, ?d1, ?d2⟩ hg2 ⟨Nat.le_refl _, hg2.size⟩ ?d3 ?_))
      case d1 => unfold I64; omega
      case d2 => unfold I64; omega
      case d3 => omega
      intro v1 w3 HO3 hg3 hg4
      have hb3 : w3.heap[wr.heap.size]? = some (.cells #[.int .i64 xl, .int .i64 xh] 83 (0, 0)) := by
        rw [hg4.block wr.heap.size (by simp) (by intro e; have := (HO.base _ e.symm).2; omega)]; exact heap_alloc_new _ _
      have kz0 := cells_at hb3 0; have kz1 := cells_at hb3 1
      simp at kz0 kz1
      clear HO2 hg2 hg4 hb3 HO cx0 cx1 hgr
      go_wp2
      go_roundg (gk - 1)
      case measure => omega
      case rel => exact ⟨i + 1, xh + 1, acc ++ [⟨f, xl - 1⟩], by omega, by go_num, rfl, by omega, by omega, by simp; exact haccl.out, HO3, hg3, HX⟩
    · obtain rfl : i = N.length := by omega
      have HM2 : Hid (acc ++ [⟨f, 1073741824⟩] = G) := by
        show _ = _
        rw [← HM.out, List.drop_length]; rfl
      have hwr := hgr.size
      clear HM
      go_wp2_with (at_builtin; go_must (refine wp_app kSp (W := wr) (w0 := w1) (row0 := none) w1.heap.size rfl _ _ _ 83 (.agg #[.int .i64 0, .int .i64 0]) 16 rfl Tryz.underlying22 info83 rfl ⟨by decide, by decide⟩ u5 acc ⟨f, 1073741824⟩ #[.int .i64 f, .int .i64 1073741824] rfl rfl HO ⟨rfl, ?d1, ?d2⟩ hgr ⟨Nat.le_refl _, hwr⟩ ?d3 ?_))
      case d1 => unfold I64; omega
      case d2 => decide
      case d3 => omega
      intro v1 w3 HO3 hg3 hg4
      rw [HM2.out] at HO3
      obtain ⟨A3, c3, rfl, hc3, hC3⟩ := HO3.reads (by unfold maxN; omega)
      have C3 := Lib.hid hC3
      have hgw := hg1.trans hg3
      clear hC3 HO3 hg4 HO
      go_wp2_with (go_at_call 86; refine (Meet_new l G A A3 c c3 w3 (by omega) (by omega) hc hc3 (H.out.live hgw) C3.out).mono ?_; rintro e w' ⟨A4, c4, rfl, hc4, hC4, hg5⟩)
      go_ret
      rw [HR.out]
      exact ⟨A4, c4, rfl, hc4, hC4.step (fun k hk => ⟨⟨Nat.le_trans hgw.size hk.1, hk.2⟩, rfl⟩), hgw.trans hg5⟩
theorem Minus_any (l m : List Sp) (A B : Option Addr) (c e : Nat) (w : World) (hl : l.length ≤ 900000) (hm : m.length ≤ 900000) (hc : l.length ≤ c) (he : m.length ≤ e) (h : kSp.C w (live w) A l) (h' : kSp.C w (live w) B m) :
    Calls Tryz.prog 71 #[.slice A l.length c, .slice B m.length e] w (SlRet kSp w (minusM l m)) := (Minus_new l m A B c e w hl hm hc he h h').mono fun _ _ => SlNew.ret
set_option maxRecDepth 100000 in
set_option maxHeartbeats 2000000 in
theorem Within_any (l m : List Sp) (A B : Option Addr) (c e : Nat) (w : World) (hl : l.length ≤ 900000) (hm : m.length ≤ 900000) (hc : l.length ≤ c) (he : m.length ≤ e) (h : kSp.C w (live w) A l) (h' : kSp.C w (live w) B m) :
    Calls Tryz.prog 53 #[.slice A l.length c, .slice B m.length e] w (BoolG w (withinM l m)) := by
  have H := Lib.hid h; have H' := Lib.hid h'; clear h h'
  have HW : Hid (withinM l m = (((minusM l m).length : Int) == 0)) := by
    show _ = _
    unfold withinM
    cases minusM l m <;> simp
    omega
  go_enter Tryz.func53, Tryz.ntmps53
  go_wp2_with (go_at_call 71; refine (Minus_any l m A B c e w hl hm hc he H.out H'.out).mono ?_; rintro e w' ⟨A4, c4, rfl, hc4, hC4, hg5⟩)
  go_ret
  exact ⟨by rw [HW.out]; rfl, hg5⟩
end Go.Proofs.YtocfmjiollafaaaGreatDoor
