/- crosswaylaw18.alive: it answers true. -/
import Derived.Test.YtdeajkopmkdilaaGreatAgree
import Derived.Deep.Cut
open Go Go.RowKit Go.Shelf
namespace Go.Proofs.YtdeajkopmkdilaaGreat
set_option linter.unusedSimpArgs false
set_option linter.unusedVariables false
set_option maxRecDepth 100000
set_option maxHeartbeats 1000000
theorem owns_blk {w : World} {B e : Nat} {v : Value} {n : Nat} {xs : List Value} (h : w.ownsRow B e 1 v n xs) (hn : 0 < n) :
    ∃ g cap L, v = .slice (some ⟨g, 0, none⟩) n cap ∧ B ≤ g ∧ n ≤ cap ∧ w.heap[g]? = some (.cells (List.toArray L) e (0, 0)) ∧ ∀ j, j < xs.length → L[j]? = xs[j]? := by
  obtain ⟨hl, h | ⟨g, cap, cur, rfl, hg, hh, hc, hm, hs, ht⟩⟩ := h
  · omega
  · refine ⟨g, cap, cur.toList, rfl, hg, hc, by simpa using hh, fun j hj => ?_⟩
    have : j < n * 1 := by omega
    rw [← ht, List.getElem?_take_of_lt (by omega)]
theorem below_drewN {B n : Nat} {w w' : World} (h : Below B w w') : Below B w (w'.drewN n) := ⟨h.os, h.tape, h.output, h.size, h.block⟩
theorem lst3 {L : List Value} (h : L[0]? = some (.int .u8 1) ∧ L[1]? = some (.int .u8 2) ∧ L[2]? = some (.int .u8 3)) : ∀ j, j < (bvals [1, 2, 3]).length → L[0 + j]? = (bvals [1, 2, 3])[j]? := fun j hj => by
  rw [Nat.zero_add]
  obtain ⟨l0, l1, l2⟩ := h
  match j, hj with
  | 0, _ => exact l0
  | 1, _ => exact l1
  | 2, _ => exact l2
  | j + 3, h => exact absurd h (by simp [bvals])
def c34 : Cfg := ⟨0, 3, 4, []⟩
def s00 : Sl := ⟨fun _ => czero, fun _ => 0, 0⟩
def s01 : Sl := (s00.setN 1).set 1 c34 1
theorem built_c34 : Tryz.prog.built 35 [(1, .int .i64 3), (2, .int .i64 4)] = some (cfgL c34).toArray := by kernel_rfl
theorem e1 : s00.instErr 1 c34 = 0 := by decide
theorem i1 : s00.inst 1 c34 = s01 := if_pos e1
theorem e2 : s01.instErr 1 c34 = 16 := by decide
theorem e3 : s01.instErr 3 c34 = 11 := by decide
theorem e4 : s01.instErr 2 czero = 10 := by decide
theorem i2 : s01.inst 1 c34 = s01 := if_neg (by rw [e2]; decide)
theorem i3 : s01.inst 3 c34 = s01 := if_neg (by rw [e3]; decide)
theorem i4 : s01.inst 2 czero = s01 := if_neg (by rw [e4]; decide)
def id8 : List UInt8 := [71, 1, 2, 3, 4, 5, 6, 7]
theorem zparts_new (w : World) (a b c : Value) (h1 : a.oneCell' = true) (h2 : b.oneCell' = true) (h3 : c.oneCell' = true) : canPut (w.alloc (.cells #[.int .i64 0, .slice none 0 0, .slice none 0 0] 43)) (.pointer (some ⟨w.heap.size, 0, none⟩)) (.agg #[a, b, c]) 3 = true ∧
    putAt (w.alloc (.cells #[.int .i64 0, .slice none 0 0, .slice none 0 0] 43)) (.pointer (some ⟨w.heap.size, 0, none⟩)) (.agg #[a, b, c]) = w.alloc (.cells #[a, b, c] 43) :=
  ⟨canPut_new w [.int .i64 0, .slice none 0 0, .slice none 0 0] [a, b, c] 43 rfl (by decide) (by simp [h1, h2, h3]), putAt_new w [.int .i64 0, .slice none 0 0, .slice none 0 0] [a, b, c] 43 rfl⟩
attribute [local go_sem] Oper.semAt_some
attribute [local go_sem ↓] exec_load_cfg exec_load_rcfg
attribute [local go_sem] binop_rcfg_neq binop_cfg_neq built_cfg0 cfgEq_refl
theorem alive18 (w : World) : Calls Tryz.prog 11 #[] w fun e w' => e = .returned (.bool true) ∧ Below w.heap.size w w' := by
  refine (callsIn_wide (n := 9)).1 ?_
  refine callsIn_of_wp_marks Tryz.func11 rfl trivial ?_ rfl
  simp only [Tryz.ntmps11, List.size_toArray, List.length_cons, List.length_nil, Nat.reduceAdd, Nat.reduceSub, Array.replicate_succ, Array.replicate_zero, List.push_toArray, List.append_toArray, List.nil_append, List.cons_append]
  refine wpIn_wide.2 ?_
  have hR := Boxed.new w 4 (.bool false)
  have hB0 : Below w.heap.size w (w.alloc (.cells #[.bool false] 4)) := (Below.refl _ _).alloc (Nat.le_refl _) _
  have hz0 : (w.alloc (.cells #[.bool false] 4)).heap.size = w.heap.size + 1 := World.size_alloc _ _
  go_wp2_with (first
    | (go_at_call 12; refine (new_any _).mono ?_; rintro e w1 ⟨rfl, hS, hb1⟩; replace hR := blk_belowA hb1 hR; have hB1 := hB0.trans (hb1.mono (by omega)); have hlt := blk_lt hS; rw [hz0] at hS hlt hb1 ⊢; generalize w.alloc (.cells #[.bool false] 4) = w0 at *; obtain ⟨hcan, hput⟩ := zcfg_new w1 c34; have Hcan := Lib.hid hcan; have Hput := Lib.hid hput; clear hcan hput; have h2 := blk_new w1 (.cells (cfgL c34).toArray 35); replace hS := blk_alloc hS (.cells (cfgL c34).toArray 35); replace hR := blk_alloc hR (.cells (cfgL c34).toArray 35); replace hB1 := hB1.alloc (by omega) (.cells (cfgL c34).toArray 35); have tok1 : True := trivial)
    | ((with_reducible refine at_build 35 ?_); refine wpl_build (pv := [(1, .int .i64 3), (2, .int .i64 4)]) rfl built_c34 ?_)
    | ((with_reducible refine at_build 35 ?_); refine wpl_build (pv := []) rfl built_cfg0 ?_)
    | ((with_reducible refine at_store 35 ?_); refine wpl_put size_cfg Hcan.out Hput.out ?_; clear Hcan Hput; generalize w1.alloc (.cells (cfgL c34).toArray 35) = w2 at *; generalize w1.heap.size = g2 at *)
    | ((with_reducible refine at_load 35 ?_); refine wpl_load (vs := cfgL c34) rfl Tryz.underlying35 rfl size_cfg (cfgL_length _) h2 (fun j hj => by rw [Nat.zero_add]) ?_)
    | (go_at_call 50; have _t := tok1; refine (install_all _ 1 s00 c34 _ hS (by decide) (by decide)).mono ?_; clear tok1 _t; rintro e w3 ⟨rfl, hS3, hb3⟩; rw [i1] at hS3; rw [e1]; replace h2 := hb3.blk h2 (by omega); replace hR := hb3.blk hR (by omega); have hB3 := hB1.trans (hb3.toBelow (by omega) hB1.size); clear hS hB1; have tok2 : True := trivial)
    | (go_at_call 50; have _t := tok2; refine (install_all _ 1 s01 c34 _ hS3 (by decide) (by decide)).mono ?_; clear tok2 _t; rintro e w4 ⟨rfl, hS4, hb4⟩; rw [i2] at hS4; rw [e2]; replace h2 := hb4.blk h2 (by omega); replace hR := hb4.blk hR (by omega); have hB4 := hB3.trans (hb4.toBelow (by omega) hB3.size); clear hS3 hB3; have tok3 : True := trivial)
    | (go_at_call 50; have _t := tok3; refine (install_all _ 3 s01 c34 _ hS4 (by decide) (by decide)).mono ?_; clear tok3 _t; rintro e w5 ⟨rfl, hS5, hb5⟩; rw [i3] at hS5; rw [e3]; replace h2 := hb5.blk h2 (by omega); replace hR := hb5.blk hR (by omega); have hB5 := hB4.trans (hb5.toBelow (by omega) hB4.size); clear hS4 hB4; have tok4 : True := trivial)
    | (go_at_call 50; have _t := tok4; refine (install_all _ 2 s01 czero _ hS5 (by decide) (by decide)).mono ?_; clear tok4 _t; rintro e w6 ⟨rfl, hS6, hb6⟩; rw [i4] at hS6; rw [e4]; replace h2 := hb6.blk h2 (by omega); replace hR := hb6.blk hR (by omega); have hg6 := blk_lt h2; have hB6 := hB5.trans (hb6.toBelow (by omega) hB5.size); clear hS5 hB5; have hid := blk_new w6 (.cells #[.int .u8 71, .int .u8 1, .int .u8 2, .int .u8 3, .int .u8 4, .int .u8 5, .int .u8 6, .int .u8 7] 5); replace hS6 := blk_alloc hS6 (.cells #[.int .u8 71, .int .u8 1, .int .u8 2, .int .u8 3, .int .u8 4, .int .u8 5, .int .u8 6, .int .u8 7] 5); replace h2 := blk_alloc h2 (.cells #[.int .u8 71, .int .u8 1, .int .u8 2, .int .u8 3, .int .u8 4, .int .u8 5, .int .u8 6, .int .u8 7] 5); replace hR := blk_alloc hR (.cells #[.int .u8 71, .int .u8 1, .int .u8 2, .int .u8 3, .int .u8 4, .int .u8 5, .int .u8 6, .int .u8 7] 5); have hz6 := hB6.size; replace hB6 := hB6.alloc hz6 (.cells #[.int .u8 71, .int .u8 1, .int .u8 2, .int .u8 3, .int .u8 4, .int .u8 5, .int .u8 6, .int .u8 7] 5))
    )
  have hrb : RB (w6.alloc (.cells #[.int .u8 71, .int .u8 1, .int .u8 2, .int .u8 3, .int .u8 4, .int .u8 5, .int .u8 6, .int .u8 7] 5)) (.slice (some ⟨w6.heap.size, 0, none⟩) 8 8) id8 := Rd.of_blk (l := bvals id8) hid (Nat.le_refl _) (fun j hj => by rw [Nat.zero_add])
  generalize hW7 : w6.alloc (.cells #[.int .u8 71, .int .u8 1, .int .u8 2, .int .u8 3, .int .u8 4, .int .u8 5, .int .u8 6, .int .u8 7] 5) = w7 at *
  have hz7 : w6.heap.size < w7.heap.size := by rw [← hW7]; simp
  have hg2 := blk_lt h2
  clear hW7
  generalize w6.heap.size = g7 at *
  refine (show_plain _ 1 (by decide) s01 (by decide) (by decide) (by decide) g7 0 8 71 [1, 2, 3, 4, 5, 6, 7] _ hS6 hrb (by decide) (by decide) (by decide)).mono ?_
  rintro e w8 ⟨r, rfl, ⟨vs, vn, rfl, ho1, ho2⟩, hb8⟩
  obtain ⟨a1, c1, rfl⟩ := owns_form ho1
  obtain ⟨a2, c2, rfl⟩ := owns_form ho2
  clear ho1 ho2 hb1 hb3 hb4 hb5 hb6
  have hz8 := hb8.size
  replace hS6 := blk_alloc (blk_belowA hb8 hS6) (.cells #[.int .i64 1, .slice a1 3 c1, .slice a2 4 c2] 43)
  replace h2 := blk_alloc (blk_belowA hb8 h2) (.cells #[.int .i64 1, .slice a1 3 c1, .slice a2 4 c2] 43)
  replace hR := blk_alloc (blk_belowA hb8 hR) (.cells #[.int .i64 1, .slice a1 3 c1, .slice a2 4 c2] 43)
  replace hid := blk_alloc (blk_belowA hb8 hid) (.cells #[.int .i64 1, .slice a1 3 c1, .slice a2 4 c2] 43)
  have h8 := blk_new w8 (.cells #[.int .i64 1, .slice a1 3 c1, .slice a2 4 c2] 43)
  have hB8 := (hB6.trans (hb8.mono (by omega))).alloc (by omega) (.cells #[.int .i64 1, .slice a1 3 c1, .slice a2 4 c2] 43)
  have hz9 : w8.heap.size < (w8.alloc (.cells #[.int .i64 1, .slice a1 3 c1, .slice a2 4 c2] 43)).heap.size := by simp
  obtain ⟨hcan, hput⟩ := zparts_new w8 (.int .i64 1) (.slice a1 3 c1) (.slice a2 4 c2) rfl rfl rfl
  have Hcan := Lib.hid hcan
  have Hput := Lib.hid hput
  clear hcan hput hb8 hrb
  obtain ⟨i0, hi, hz0, hz1, hz2⟩ := info_parts infoU8
  have Hi := Lib.hid (And.intro hi (And.intro hz0 (And.intro hz1 hz2)))
  clear hi hz0 hz1 hz2
  go_wp2_with (first
    | ((with_reducible refine at_store 43 ?_); refine wpl_put size_parts Hcan.out Hput.out ?_; clear Hcan Hput; generalize w8.alloc (.cells #[.int .i64 1, .slice a1 3 c1, .slice a2 4 c2] 43) = w9 at *; generalize w8.heap.size = g8 at *)
    )
  have h64 := blk_new w9 (.cells #[.int .u8 64] 5)
  have hb9 : Below w9.heap.size w9 (w9.alloc (.cells #[.int .u8 64] 5)) := (Below.refl _ _).alloc (Nat.le_refl _) _
  have hzA : w9.heap.size < (w9.alloc (.cells #[.int .u8 64] 5)).heap.size := by simp
  have hid9 := blk_belowA hb9 hid
  generalize w9.alloc (.cells #[.int .u8 64] 5) = wA at *
  refine (copy_any _ id8 _ (Rd.of_blk (l := bvals id8) hid9 (Nat.le_refl _) (fun j hj => by rw [Nat.zero_add])) (by decide)).mono ?_
  rintro e wB ⟨rc, rfl, hoc, hbB⟩
  have h9 := blk_new wB (.cells #[.int .u8 9] 5)
  have h64B := blk_alloc (blk_belowA hbB h64) (.cells #[.int .u8 9] 5)
  have hocB := hoc.alloc (.cells #[.int .u8 9] 5)
  have hzB := hbB.size
  have hbC : Below wA.heap.size wA (wB.alloc (.cells #[.int .u8 9] 5)) := hbB.alloc hzB _
  have hzC : wB.heap.size < (wB.alloc (.cells #[.int .u8 9] 5)).heap.size := by simp
  obtain ⟨hi, hz0, hz1, hz2⟩ := Hi.out
  have hrd9 : Rd (wB.alloc (.cells #[.int .u8 9] 5)) (.slice (some ⟨wB.heap.size, 0, none⟩) 1 1) 1 [.int .u8 9] := Rd.of_blk (l := [.int .u8 9]) h9 (Nat.le_refl _) (fun j hj => by rw [Nat.zero_add])
  clear hoc hid9 h64 h9
  have tok1 : True := trivial
  go_wp2_with (first
    | ((with_reducible refine at_append ?_); have _t := tok1; refine wpl_append (base := wA.heap.size) (n := 8) (m := 1) Tryz.underlying40 hi hz0 hz1 hz2 rfl (by decide) rfl hocB rfl hrd9 rfl (List.all_eq_true.1 rfl) (by decide) (by decide) (by omega) ?_; clear tok1 _t; intro v1 wD hoD hgD; have hbD : Below wA.heap.size wA wD := hbC.grown hgD (by omega) (fun k e => (hocB.lt k e).1); have h64D := (hgD.block _ (blk_lt h64B) (fun e => by have := hocB.lt _ e.symm; omega)).trans h64B; have tok2 : True := trivial)
    | ((with_reducible refine at_append ?_); have _t := tok2; (refine wpl_append (base := w9.heap.size) (n := 1) (m := 9) (xs := [.int .u8 64]) Tryz.underlying40 hi hz0 hz1 hz2 rfl (by decide) rfl ⟨rfl, .inr ⟨_, 1, _, rfl, Nat.le_refl _, h64D, Nat.le_refl _, by decide, rfl, rfl⟩⟩ rfl (Rd.of_owns hoD) rfl (List.all_eq_true.1 rfl) (by decide) (by decide) (by have := hbD.size; omega) ?_; clear tok2 _t; intro v2 wE hoE hgE; have hbE : Below w9.heap.size w9 wE := (hb9.trans (hbD.mono (by omega))).grown hgE (by have := hbD.size; omega) (fun k e => by cases e; exact Nat.le_refl _); obtain ⟨gE, cE, rfl, hgE1, hcE⟩ := owns_some hoE (by decide)))
    )
  have hB9 := hB8.trans (hbE.mono hB8.size)
  replace hS6 := blk_belowA hbE hS6
  replace h2 := blk_belowA hbE h2
  replace hR := blk_belowA hbE hR
  replace hid := blk_belowA hbE hid
  replace h8 := blk_belowA hbE h8
  have hzE := hbE.size
  refine (short_plain _ 1 (by decide) s01 (by decide) (by decide) (by decide) gE 0 cE 64 71 [1, 2, 3, 4, 5, 6, 7] [9] _ hS6 (Rd.of_owns hoE) (by decide) (by decide) (by decide) (by decide)).mono ?_
  rintro e wF ⟨r2, rfl, ⟨ws, wn, rfl, hs1, hs2⟩, hbF⟩
  obtain ⟨gs, cs, L, rfl, hgs, hcs, hbs, hLs⟩ := owns_blk hs1 (by decide)
  obtain ⟨a3, c3, rfl⟩ := owns_form hs2
  have hgsl := blk_lt hbs
  clear hs1 hs2 hoE hgE hcE hoD hgD hocB hrd9 h64B h64D hbE hbD hbC hbB hb9
  have hzF := hbF.size
  replace hS6 := blk_alloc (blk_belowA hbF hS6) (.cells #[.int .i64 1, .slice (some ⟨gs, 0, none⟩) 3 cs, .slice a3 4 c3] 43)
  replace h2 := blk_alloc (blk_belowA hbF h2) (.cells #[.int .i64 1, .slice (some ⟨gs, 0, none⟩) 3 cs, .slice a3 4 c3] 43)
  replace hR := blk_alloc (blk_belowA hbF hR) (.cells #[.int .i64 1, .slice (some ⟨gs, 0, none⟩) 3 cs, .slice a3 4 c3] 43)
  replace hid := blk_alloc (blk_belowA hbF hid) (.cells #[.int .i64 1, .slice (some ⟨gs, 0, none⟩) 3 cs, .slice a3 4 c3] 43)
  replace h8 := blk_alloc (blk_belowA hbF h8) (.cells #[.int .i64 1, .slice (some ⟨gs, 0, none⟩) 3 cs, .slice a3 4 c3] 43)
  replace hbs := blk_alloc hbs (.cells #[.int .i64 1, .slice (some ⟨gs, 0, none⟩) 3 cs, .slice a3 4 c3] 43)
  have h10 := blk_new wF (.cells #[.int .i64 1, .slice (some ⟨gs, 0, none⟩) 3 cs, .slice a3 4 c3] 43)
  have hB10 := (hB9.trans (hbF.mono hB9.size)).alloc (by omega) (.cells #[.int .i64 1, .slice (some ⟨gs, 0, none⟩) 3 cs, .slice a3 4 c3] 43)
  have hzG : wF.heap.size < (wF.alloc (.cells #[.int .i64 1, .slice (some ⟨gs, 0, none⟩) 3 cs, .slice a3 4 c3] 43)).heap.size := by simp
  obtain ⟨hcan, hput⟩ := zparts_new wF (.int .i64 1) (.slice (some ⟨gs, 0, none⟩) 3 cs) (.slice a3 4 c3) rfl rfl rfl
  have Hcan := Lib.hid hcan
  have Hput := Lib.hid hput
  clear hcan hput hbF
  have tok1 : True := trivial
  go_wp2_with (first
    | ((with_reducible refine at_store 43 ?_); refine wpl_put size_parts Hcan.out Hput.out ?_; clear Hcan Hput; generalize wF.alloc (.cells #[.int .i64 1, .slice (some ⟨gs, 0, none⟩) 3 cs, .slice a3 4 c3] 43) = wG at *; generalize wF.heap.size = g10 at *)
    | (go_at_call 37; have _t := tok1; refine (of_in _ 1 (by decide) s01 _ hS6 (by decide)).mono ?_; clear tok1 _t; rintro e wH ⟨rfl, hbH⟩; obtain ⟨hcan, hput⟩ := zcfg_new wH c34; have Hcan := Lib.hid hcan; have Hput := Lib.hid hput; clear hcan hput; have hzH := hbH.size; have hB12 := (hB10.trans (hbH.mono hB10.size)).alloc (by omega) (.cells (cfgL c34).toArray 35); replace hS6 := blk_alloc (blk_belowA hbH hS6) (.cells (cfgL c34).toArray 35); replace h2 := blk_alloc (blk_belowA hbH h2) (.cells (cfgL c34).toArray 35); replace hR := blk_alloc (blk_belowA hbH hR) (.cells (cfgL c34).toArray 35); replace hid := blk_alloc (blk_belowA hbH hid) (.cells (cfgL c34).toArray 35); replace h8 := blk_alloc (blk_belowA hbH h8) (.cells (cfgL c34).toArray 35); replace hbs := blk_alloc (blk_belowA hbH hbs) (.cells (cfgL c34).toArray 35); replace h10 := blk_alloc (blk_belowA hbH h10) (.cells (cfgL c34).toArray 35); have h12 := blk_new wH (.cells (cfgL c34).toArray 35); clear hbH)
    | ((with_reducible refine at_store 35 ?_); refine wpl_put size_cfg Hcan.out Hput.out ?_; clear Hcan Hput)
    )
  have hIe : (wH.alloc (.cells (cfgL c34).toArray 35)).heap.size = wH.heap.size + 1 := World.size_alloc _ _
  have HIe := Lib.hid hIe
  clear hIe
  have hL0 : L[0]? = some (.int .u8 1) := hLs 0 (by decide)
  have hL1 : L[1]? = some (.int .u8 2) := hLs 1 (by decide)
  have hL2 : L[2]? = some (.int .u8 3) := hLs 2 (by decide)
  have HL := Lib.hid (And.intro hL0 (And.intro hL1 hL2))
  have hcs3 : 3 ≤ cs := hcs
  clear hLs hcs hL0 hL1 hL2 hi hz0 hz1 hz2
  generalize wH.alloc (.cells (cfgL c34).toArray 35) = wI at *
  generalize wH.heap.size = g12 at *
  refine (all_any _ _).mono ?_
  rintro e w' ⟨rfl, rfl⟩
  have hbox := blk_alloc (Boxed.new wI 3 (.int .i64 0)) (.cells #[.pointer (some ⟨w.heap.size + 1, 0, none⟩)] 24)
  have bA := Boxed.new (wI.alloc (.cells #[.int .i64 0] 3)) 24 (.pointer (some ⟨w.heap.size + 1, 0, none⟩))
  simp only [World.size_alloc] at bA
  replace hS6 := blk_alloc (blk_alloc hS6 (.cells #[.int .i64 0] 3)) (.cells #[.pointer (some ⟨w.heap.size + 1, 0, none⟩)] 24)
  replace h2 := blk_alloc (blk_alloc h2 (.cells #[.int .i64 0] 3)) (.cells #[.pointer (some ⟨w.heap.size + 1, 0, none⟩)] 24)
  replace hR := blk_alloc (blk_alloc hR (.cells #[.int .i64 0] 3)) (.cells #[.pointer (some ⟨w.heap.size + 1, 0, none⟩)] 24)
  replace hid := blk_alloc (blk_alloc hid (.cells #[.int .i64 0] 3)) (.cells #[.pointer (some ⟨w.heap.size + 1, 0, none⟩)] 24)
  replace h8 := blk_alloc (blk_alloc h8 (.cells #[.int .i64 0] 3)) (.cells #[.pointer (some ⟨w.heap.size + 1, 0, none⟩)] 24)
  replace hbs := blk_alloc (blk_alloc hbs (.cells #[.int .i64 0] 3)) (.cells #[.pointer (some ⟨w.heap.size + 1, 0, none⟩)] 24)
  replace h10 := blk_alloc (blk_alloc h10 (.cells #[.int .i64 0] 3)) (.cells #[.pointer (some ⟨w.heap.size + 1, 0, none⟩)] 24)
  replace h12 := blk_alloc (blk_alloc h12 (.cells #[.int .i64 0] 3)) (.cells #[.pointer (some ⟨w.heap.size + 1, 0, none⟩)] 24)
  have hzW : wI.heap.size + 2 = ((wI.alloc (.cells #[.int .i64 0] 3)).alloc (.cells #[.pointer (some ⟨w.heap.size + 1, 0, none⟩)] 24)).heap.size := by simp
  replace hB12 := (hB12.alloc (by have := HIe.out; omega) (.cells #[.int .i64 0] 3)).alloc (by have := HIe.out; simp; omega) (.cells #[.pointer (some ⟨w.heap.size + 1, 0, none⟩)] 24)
  go_wp2
  generalize (wI.alloc (.cells #[.int .i64 0] 3)).alloc (.cells #[.pointer (some ⟨w.heap.size + 1, 0, none⟩)] 24) = W0 at *
  have hIe := HIe.out
  clear HIe
  generalize wI.heap.size = X at *
  subst hIe
  have HzW := Lib.hid hzW
  have hzX : g12 + 1 + 2 ≤ W0.heap.size := by omega
  clear hzW
  refine (wpIn_wide (n := 9)).1 ?_
  refine rangeFunc_box rfl (by decide) (gf := 97) (lb := #[.pointer (some ⟨g12 + 1 + 1, 0, none⟩)]) rfl trivial (enters_of Tryz.func97 (by kernel_rfl) rfl)
    (all_stops Fence.wide 8 trivial rfl (by decide) (g12 + 1 + 1) (w.heap.size + 1) w.heap.size s01 W0 (by omega) bA.cell hS6) belowK_t (belowK_b (by omega)) (Below.refl _ _) (fun _ => rfl)
    (fun pre W' => (Boxed W' (g12 + 1) 3 (.int .i64 (pre.length : Int)) ∧ But (g12 + 1) W0 W') ∧ Below w.heap.size w W')
    (fun c pre _ => c = .ret ∧ ∃ (q : List Nat) (x : Nat), pre = q ++ [x] ∧ x ≠ 1)
    (OwnFrom.and (OwnFrom.and (Own.from (boxed_own _ _ _) _) (ownFrom_but (Nat.le_refl _))) (ownFrom_below (Nat.le_refl _) (by omega)))
    (fun c => ownFrom_pure _ _)
    ⟨⟨hbox, But.refl _ _⟩, hB12⟩
    (fun tm x Bx => (((tm.setIfInBounds 63 (.int .i64 (x : Int))).setIfInBounds 64 (.agg (cfgL (s01.r x)).toArray)).setIfInBounds 15 (.int .i64 (x : Int))).setIfInBounds 16 (.pointer (some ⟨Bx, 0, none⟩))) (fun x => (cfgL (s01.r x)).toArray) 35
    ?assign ?body ?done ?stop
  case assign =>
    rintro l pre x W1 K ⟨⟨bN, hBut⟩, hB1⟩ hK
    obtain ⟨hcan, hput⟩ := zcfg_new W1 (s01.r x)
    have Hcan := Lib.hid hcan
    have Hput := Lib.hid hput
    clear hcan hput
    dsimp only [encS]
    gi_wp2_with ((with_reducible refine atIn_store 35 ?_); refine wplIn_store rfl size_cfg Hcan.out Hput.out ?_)
    exact hK _ _ ((KeepsOthers.alloc _ _).from _) ((Below.refl _ W1).alloc hB1.size _) ⟨⟨bN.alloc _, hBut.alloc _⟩, hB1.alloc hB1.size _⟩ ⟨W1.heap.size, blk_new _ _, rfl⟩
  case body =>
    rintro l pre x Bx W1 ⟨⟨bN, hBut⟩, hB1⟩ hX1 hlen
    simp only [List.setIfInBounds_toArray, List.set_cons_succ, List.set_cons_zero]
    have hpx : partAt W1 (.pointer (some ⟨Bx, 0, none⟩)) 19 = some (cfgL (s01.r x)) := partAt_blk hX1 (by simp [cfgL_length]) rfl
    have h21 := hBut.blk h2 (by omega)
    have hp2 : partAt W1 (.pointer (some ⟨g2, 0, none⟩)) 19 = some (cfgL c34) := partAt_blk h21 (by simp [cfgL_length]) rfl
    have cN := bN.cell
    have fN := bN.frozen
    have hR1 := hBut.blk hR (by omega)
    have cR := Boxed.cell hR1
    have fR := Boxed.frozen hR1
    have hlen1 : (pre.length : Int) < 3 := by omega
    have hlen0 : 0 ≤ (pre.length : Int) := by omega
    by_cases hx : x = 1
    · subst hx
      have cz : ∀ w : World, (binOp .neq 35 (.agg (cfgL (s01.r 1)).toArray) (.agg (cfgL c34).toArray)).run Tryz.prog w = .ok (.bool false) w := fun w => by rw [binop_cfg_neq]; rfl
      gi_wp2_with (first | ((with_reducible refine atIn_load 35 ?_); refine wplIn_load (wanted_at rfl rfl rfl) Tryz.underlying35 rfl size_cfg hpx ?_) | ((with_reducible refine atIn_load 35 ?_); refine wplIn_load (wanted_at rfl rfl rfl) Tryz.underlying35 rfl size_cfg hp2 ?_))
      refine ⟨(KeepsOthers.setCell _ _ _).from _, (Below.refl _ _).setCell (p := ⟨g12 + 1, 0, none⟩) (by simp; omega) _, ⟨⟨?_, hBut.setCell _ _⟩, hB1.setCell (p := ⟨g12 + 1, 0, none⟩) (by simp; omega) _⟩⟩
      rw [show (((pre ++ [1] : List Nat).length : Nat) : Int) = (pre.length : Int) + 1 by simp]; exact bN.set _
    · have hx1 : ((x : Int) != 1) = true := by rw [bne_iff_ne]; omega
      have Hx := Lib.hid hx
      clear hx
      gi_wp2
      exact ⟨(KeepsOthers.setCell _ _ _).from _, rfl, pre, x, rfl, Hx.out⟩
  case done =>
    rintro D ys W1 hD rfl ⟨⟨bN, hBut⟩, hB1⟩ hK
    have hzB := hBut.size
    replace hS6 := hBut.blk hS6 (by omega)
    replace h2 := hBut.blk h2 (by omega)
    replace hR := hBut.blk hR (by omega)
    replace hid := hBut.blk hid (by omega)
    replace h8 := hBut.blk h8 (by omega)
    replace hbs := hBut.blk hbs (by omega)
    replace h10 := hBut.blk h10 (by omega)
    replace h12 := hBut.blk h12 (by omega)
    rw [show (act s01 3) = [1] from by decide] at bN
    have hN : W1.heap[g12 + 1]? = some (.cells [.int .i64 1].toArray 3 (0, 0)) := bN
    clear bN bA hbox hBut
    have tok1 : True := trivial
    go_upto_region 24 with (first
      | (go_at_call 15; refine (clone_any _ s01 _ hS6).mono ?_; rintro e wa ⟨gc, rfl, hgc, hSc, hba⟩; have hza := hba.size; replace hS6 := blk_belowA hba hS6; replace h2 := blk_belowA hba h2; replace hR := blk_belowA hba hR; replace hid := blk_belowA hba hid; replace h8 := blk_belowA hba h8; replace hbs := blk_belowA hba hbs; replace h10 := blk_belowA hba h10; replace h12 := blk_belowA hba h12; replace hN := blk_belowA hba hN; replace hK := blk_belowA hba hK; have hBa := hB1.trans (hba.mono hB1.size); clear hba)
      | (go_at_call 55; have _t := tok1; (refine (retire_all _ 1 s01 _ hS6 (fun k hk => (by show cfgEq (if k = 1 then c34 else czero) czero = true; have : k ≠ 1 := (fun e => by subst e; revert hk; decide); rw [if_neg this]; exact cfgEq_refl _))).mono ?_; clear tok1 _t; rintro e wb ⟨rfl, hSb, hbb⟩; rw [show s01.retErr 1 = 0 from by decide]; rw [show s01.ret 1 = s01.set 1 czero 0 from if_pos (by decide)] at hSb; have hzb := hbb.size; replace h2 := hbb.blk h2 (by omega); replace hR := hbb.blk hR (by omega); replace hid := hbb.blk hid (by omega); replace h8 := hbb.blk h8 (by omega); replace hbs := hbb.blk hbs (by omega); replace h10 := hbb.blk h10 (by omega); replace h12 := hbb.blk h12 (by omega); replace hN := hbb.blk hN (by omega); replace hK := hbb.blk hK (by omega); replace hSc := hbb.blk hSc (by omega); have hBb := hBa.trans (hbb.toBelow (by omega) hBa.size); clear hbb hS6; have tok2 : True := trivial))
      | (go_at_call 55; have _t := tok2; refine (retire_all _ 1 (s01.set 1 czero 0) _ hSb (fun k _ => (by show cfgEq (if k = 1 then czero else (if k = 1 then c34 else czero)) czero = true; split <;> exact cfgEq_refl _))).mono ?_; clear tok2 _t; rintro e wc ⟨rfl, hSd, hbc⟩; rw [show (s01.set 1 czero 0).retErr 1 = 17 from by decide]; rw [show (s01.set 1 czero 0).ret 1 = s01.set 1 czero 0 from if_neg (by decide)] at hSd; have hzc := hbc.size; replace h2 := hbc.blk h2 (by omega); replace hR := hbc.blk hR (by omega); replace hid := hbc.blk hid (by omega); replace h8 := hbc.blk h8 (by omega); replace hbs := hbc.blk hbs (by omega); replace h10 := hbc.blk h10 (by omega); replace h12 := hbc.blk h12 (by omega); replace hN := hbc.blk hN (by omega); replace hK := hbc.blk hK (by omega); replace hSc := hbc.blk hSc (by omega); have hBc := hBb.trans (hbc.toBelow (by omega) hBb.size); clear hbc hSb)
      | (go_at_call 17; refine (show_none _ 1 (by decide) (s01.set 1 czero 0) (by decide) g7 0 8 8 71 _ hSd (cell_blk hid rfl) (by decide) (by decide)).mono ?_; rintro e wd ⟨rfl, hbd⟩; have hzd := hbd.size; replace hSd := blk_belowA hbd hSd; replace h2 := blk_belowA hbd h2; replace hR := blk_belowA hbd hR; replace h8 := blk_belowA hbd h8; replace hbs := blk_belowA hbd hbs; replace h10 := blk_belowA hbd h10; replace h12 := blk_belowA hbd h12; replace hN := blk_belowA hbd hN; replace hK := blk_belowA hbd hK; replace hSc := blk_belowA hbd hSc; have hBd := hBc.trans (hbd.mono hBc.size); clear hbd hid; obtain ⟨hcan, hput⟩ := zparts_new wd (.int .i64 0) (.slice none 0 0) (.slice none 0 0) rfl rfl rfl; have Hcan := Lib.hid hcan; have Hput := Lib.hid hput; clear hcan hput; replace hSd := blk_alloc hSd (.cells #[.int .i64 0, .slice none 0 0, .slice none 0 0] 43); replace h2 := blk_alloc h2 (.cells #[.int .i64 0, .slice none 0 0, .slice none 0 0] 43); replace hR := blk_alloc hR (.cells #[.int .i64 0, .slice none 0 0, .slice none 0 0] 43); replace h8 := blk_alloc h8 (.cells #[.int .i64 0, .slice none 0 0, .slice none 0 0] 43); replace hbs := blk_alloc hbs (.cells #[.int .i64 0, .slice none 0 0, .slice none 0 0] 43); replace h10 := blk_alloc h10 (.cells #[.int .i64 0, .slice none 0 0, .slice none 0 0] 43); replace h12 := blk_alloc h12 (.cells #[.int .i64 0, .slice none 0 0, .slice none 0 0] 43); replace hN := blk_alloc hN (.cells #[.int .i64 0, .slice none 0 0, .slice none 0 0] 43); replace hK := blk_alloc hK (.cells #[.int .i64 0, .slice none 0 0, .slice none 0 0] 43); replace hSc := blk_alloc hSc (.cells #[.int .i64 0, .slice none 0 0, .slice none 0 0] 43); replace hBd := hBd.alloc hBd.size (.cells #[.int .i64 0, .slice none 0 0, .slice none 0 0] 43))
      | ((with_reducible refine at_store 43 ?_); refine wpl_put size_parts Hcan.out Hput.out ?_; clear Hcan Hput; generalize wd.alloc (.cells #[.int .i64 0, .slice none 0 0, .slice none 0 0] 43) = wJ at *; generalize wd.heap.size = g20 at *; have cz : ∀ w : World, (binOp .eql 35 (.agg (cfgL c34).toArray) (.agg (cfgL c34).toArray)).run Tryz.prog w = .ok (.bool true) w := fun w => (by rw [binop_cfg_eql, cfgEq_refl]); have cN := cell_blk hN (j := 0) rfl; have c8 := cell_blk h8 (j := 0) (l := [.int .i64 1, .slice a1 3 c1, .slice a2 4 c2]) rfl; have c10 := cell_blk h10 (j := 1) (l := [.int .i64 1, .slice (some ⟨gs, 0, none⟩) 3 cs, .slice a3 4 c3]) rfl; have hrn : RB (wJ.alloc (.cells #[.int .u8 1, .int .u8 2, .int .u8 3] 5)) (.slice (some ⟨wJ.heap.size, 0, none⟩) 3 3) [1, 2, 3] := Rd.of_blk (l := bvals [1, 2, 3]) (blk_new _ _) (Nat.le_refl _) (fun j hj => by rw [Nat.zero_add]); have hrs : RB (wJ.alloc (.cells #[.int .u8 1, .int .u8 2, .int .u8 3] 5)) (.slice (some ⟨gs, 0, none⟩) 3 cs) [1, 2, 3] := Rd.of_blk (blk_alloc hbs _) hcs3 (lst3 HL.out); have HRR := Lib.hid (And.intro hR (And.intro hK (And.intro hSc (And.intro hSd hBd)))); have Hrn := Lib.hid hrn; have Hrs := Lib.hid hrs; clear hR hK hSc hSd hBd hN h8 h10 hrn hrs hbs; have tok1 : True := trivial)
      )
    simp only [List.append_eq, List.cons_append, List.nil_append]
    go_wp2_with (first
      | ((with_reducible refine at_loadG 35 ?_); refine wpl_loadG (vs := cfgL c34) rfl rfl rfl Tryz.underlying35 rfl size_cfg (cfgL_length _) h12 (fun j hj => by rw [Nat.zero_add]) ?_)
      | ((with_reducible refine at_loadG 35 ?_); refine wpl_loadG (vs := cfgL c34) rfl rfl rfl Tryz.underlying35 rfl size_cfg (cfgL_length _) h2 (fun j hj => by rw [Nat.zero_add]) ?_)
      | (go_at_call 22; refine (same_any _ _ [1, 2, 3] [1, 2, 3] _ Hrs.out Hrn.out (by decide)).mono ?_; rintro e wz ⟨rfl, n, rfl⟩; have cR := cell_blk (j := 0) (l := [.bool false]) (blk_drewN (n := n) (blk_alloc HRR.out.1 (.cells #[.int .u8 1, .int .u8 2, .int .u8 3] 5))) rfl; have fR := frozen_blk (j := 0) (blk_drewN (n := n) (blk_alloc HRR.out.1 (.cells #[.int .u8 1, .int .u8 2, .int .u8 3] 5))))
      | (go_at_call 38; have _t := tok1; refine (stamp_in _ 1 (by decide) s01 _ (blk_drewN (blk_alloc HRR.out.2.2.1 _))).mono ?_; clear tok1 _t; rintro e wz ⟨rfl, rfl⟩; rw [show s01.st 1 = (1 : Int) from rfl])
      | (go_at_call 38; refine (stamp_in _ 1 (by decide) (s01.set 1 czero 0) _ (blk_drewN (blk_alloc HRR.out.2.2.2.1 _))).mono ?_; rintro e wz ⟨rfl, rfl⟩; rw [show (s01.set 1 czero 0).st 1 = (0 : Int) from rfl])
      )
    obtain ⟨hR, hK, _, _, hBd⟩ := HRR.out
    have hR' : Boxed ((wJ.alloc (.cells #[.int .u8 1, .int .u8 2, .int .u8 3] 5)).drewN n) w.heap.size 4 (.bool false) := blk_drewN (blk_alloc hR _)
    have hK' : ((wJ.alloc (.cells #[.int .u8 1, .int .u8 2, .int .u8 3] 5)).drewN n).heap[D]? = some (.deferred (some [])) := blk_drewN (blk_alloc hK _)
    refine run_frame_end ((KeepsOthers.setCell _ _ _).same D _ hK' rfl) (results_box rfl _ _ rfl Tryz.underlying4 rfl ((hR'.set _).kept (grownBy_putObj' _ D _) (fun e => ?_))) ⟨rfl, ?_⟩
    · simp only [Option.some.injEq] at e; omega
    · exact ((below_drewN (n := n) (hBd.alloc hBd.size _)).setCell (p := ⟨w.heap.size, 0, none⟩) (Nat.le_refl _) _).trans (belowK_b (w := w) (Nat.le_refl _) _ D _ _ (by omega) ((KeepsOthers.setCell _ _ _).same D _ hK' rfl) rfl rfl)
  case stop =>
    rintro D c pre W1 hD ⟨k, hk, hpre⟩ ⟨_, q, x, rfl, hng⟩ _
    have hm : x ∈ act s01 k := by rw [← hpre]; simp
    unfold act at hm
    simp only [List.mem_filter, List.mem_range, bne_iff_ne] at hm
    exact (hng (Classical.byContradiction fun h1 => hm.2 (by show (if x = 1 then (1 : Int) else 0) = 0; rw [if_neg h1]))).elim
end Go.Proofs.YtdeajkopmkdilaaGreat
