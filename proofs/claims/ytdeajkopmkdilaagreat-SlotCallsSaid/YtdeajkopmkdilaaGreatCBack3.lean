/- codec.Back by the plain mode. -/
import Derived.Test.YtdeajkopmkdilaaGreatCodec
open Go Go.RowKit
namespace Go.Proofs.YtdeajkopmkdilaaGreat
set_option linter.unusedSimpArgs false
set_option maxRecDepth 100000
set_option maxHeartbeats 1000000
theorem exec_store_parts (ev : Operand → Value) (dst : Option Tmp) (x y : Operand) (tt : TypeId) (ps : String) (af : Array Edge) (gd : Option (Nat × Bool)) (w : World) (h : canPut w (ev x) (ev y) 3 = true) :
    (execOp ev { dst := dst, op := .store 43 x y, type := tt, pos := ps, after := af, guard := gd }).run Tryz.prog w = .ok .skip (putAt w (ev x) (ev y)) :=
  exec_store size_parts ev dst x y tt ps af gd w h
attribute [local go_sem ↓] exec_load_cfg exec_store_parts
attribute [local go_sem] canPut_eq Value.oneCell'
theorem fin9 {w w5 w9 : World} {c : Cfg} {b0 : UInt8} {l : List UInt8} {s g2 g3 cap2 cap3 : Nat} {L : Array Value} (k2 : w9.ownsRow w5.heap.size 5 1 (.slice (some ⟨g2, 0, none⟩) s cap2) s (bvals (l.take s)))
    (k3 : w9.ownsRow w5.heap.size 5 1 (.slice (some ⟨g3, 0, none⟩) (l.length - s) cap3) (l.length - s) (bvals (l.drop s))) (hbl : Below w.heap.size w w5) (hbM : Below w5.heap.size w5 w9) (hg8 : w.heap.size + 1 < w5.heap.size) (hz : w5.heap.size ≤ w9.heap.size)
    (Hs : c.sid = (s : Int)) (ltake : (l.take s).length = s) (ldrop : (l.drop s).length = l.length - s) :
    ∃ r, Ending.returned (.tuple #[.agg #[.int .i64 ((b0.toNat : Int) / 64), .slice (some ⟨g2, 0, none⟩) s cap2, .slice (some ⟨g3, 0, none⟩) (l.length - s) cap3], .int .i64 0]) = .returned (.tuple #[r, .int .i64 0]) ∧
      IsParts (w9.setRow (w.heap.size + 1) L) w.heap.size r ⟨(b0.toNat / 64 : Nat), l.take c.sid.toNat, l.drop c.sid.toNat⟩ ∧ Below w.heap.size w (w9.setRow (w.heap.size + 1) L) := by
  have e : c.sid.toNat = s := by omega
  refine ⟨_, rfl, ⟨_, _, by rw [show ((b0.toNat : Int) / 64) = ((b0.toNat / 64 : Nat) : Int) from by omega], ?_, ?_⟩, below_setRow (hbl.trans (hbM.mono (by omega))) (by omega) _⟩
  · have := owns_setRow k2 hg8 L
    simp only [e, ltake]; exact owns_mono this (by omega)
  · have := owns_setRow k3 hg8 L
    simp only [e, ldrop]; exact owns_mono this (by omega)
theorem cback_plain (c : Cfg) (hr : c.right = true) (hm : c.mode = 0) (b o cc : Nat) (b0 : UInt8) (l : List UInt8) (w : World) (h : RB w (.slice (some ⟨b, o, none⟩) (l.length + 1) cc) (b0 :: l)) (hl : (l.length : Int) = c.sid + c.nonce) (ht : b0.toNat % 64 = l.length) :
    Calls Tryz.prog 35 #[.agg (cfgL c).toArray, .slice (some ⟨b, o, none⟩) (l.length + 1) cc] w fun e w' => ∃ r, e = .returned (.tuple #[r, .int .i64 0]) ∧ IsParts w' w.heap.size r ⟨(b0.toNat / 64 : Nat), l.take c.sid.toNat, l.drop c.sid.toNat⟩ ∧ Below w.heap.size w w' := by
  obtain ⟨_, _, h1, h2, h3, h4, h5⟩ := right_bd c hr
  have hl0 : l.length ≤ 19 := by omega
  have hl5 : 5 ≤ l.length := by omega
  have hsz : c.size = 1 + (c.sid + c.nonce) := by unfold Cfg.size; rw [if_pos hr]
  have hne : ((l.length : Int) + 1 != c.size) = false := by rw [bne_eq_false_iff_eq]; omega
  have hne2 : (((b0.toNat % 64 + 1 : Nat) : Int) != (l.length : Int) + 1) = false := by rw [bne_eq_false_iff_eq]; omega
  have c0 : w.cell? ⟨b, o, none⟩ = some (.int .u8 b0.toNat) := by
    obtain ⟨ao, c', e, _, hh⟩ := h
    cases e
    rcases hh with ⟨h0, _⟩ | ⟨b', o', e2, hh⟩
    · simp at h0
    · cases e2; exact hh 0 (by simp [bvals])
  have hcc : l.length + 1 ≤ cc := by obtain ⟨ao, c', e, hh, _⟩ := h; cases e; simpa using hh
  have hb0 := cell_lt c0
  have hbox : ((w.alloc (.cells (cfgL c).toArray 35)).alloc (.cells #[.int .i64 0, .slice none 0 0, .slice none 0 0] 43)).heap[w.heap.size]? = some (.cells (cfgL c).toArray 35 (0, 0)) := blk_alloc (blk_new _ _) _
  have hres : ((w.alloc (.cells (cfgL c).toArray 35)).alloc (.cells #[.int .i64 0, .slice none 0 0, .slice none 0 0] 43)).heap[w.heap.size + 1]? = some (.cells #[.int .i64 0, .slice none 0 0, .slice none 0 0] 43 (0, 0)) := heap_alloc2_new _ _ _
  have hbl : Below w.heap.size w ((w.alloc (.cells (cfgL c).toArray 35)).alloc (.cells #[.int .i64 0, .slice none 0 0, .slice none 0 0] 43)) := ((Below.refl _ _).alloc (Nat.le_refl _) _).alloc (by simp) _
  have H := Lib.hid h
  have Hm := Lib.hid hm
  have Hl := Lib.hid hl
  have Hsz := Lib.hid hsz
  have Ht := Lib.hid ht
  clear h hm hl hsz ht
  go_enter Tryz.func35, Tryz.ntmps35
  have tok1 : True := trivial
  go_wp2_with (first | ((with_reducible refine at_load 35 ?_); refine wpl_load (vs := cfgL c) rfl Tryz.underlying35 rfl size_cfg (cfgL_length _) hbox (fun j _ => by rw [Nat.zero_add]) ?_) | (go_at_call 63; refine (right_any c _).mono ?_; rintro e w2 ⟨rfl, hb⟩; rw [hr]; replace hbox := blk_belowA hb hbox; replace hres := blk_belowA hb hres; replace hbl := hbl.trans (hb.mono hbl.size)) | (go_at_call 51; refine (size_any c _).mono ?_; rintro e w3 ⟨rfl, hb3⟩; replace hbox := blk_belowA hb3 hbox; replace hres := blk_belowA hb3 hres; replace hbl := hbl.trans (hb3.mono hbl.size); have c3 : w3.cell? ⟨b, o, none⟩ = some (.int .u8 b0.toNat) := (hbl.cell (p := ⟨b, o, none⟩) hb0).trans c0) | (go_at_call 53; refine (told_any b0 _).mono ?_; rintro e w4 ⟨rfl, rfl⟩))
  have hcc1 : ¬ cc = 1 := by omega
  have q0 : (0 : Int) ≤ (l.length : Int) + 1 := by omega
  have q1 : (1 : Int) ≤ (l.length : Int) + 1 := by omega
  have q2 : (l.length : Int) + 1 ≤ cc := by omega
  clear hb hb3 c3
  have hn3 : w.heap.size + 1 < w3.heap.size := blk_lt hres
  go_region_held3 (fun w' => partAt w' (.pointer (some ⟨w.heap.size, 0, none⟩)) 19 = some (cfgL c) ∧ w'.heap[w.heap.size]? = some (.cells (cfgL c).toArray 35 (0, 0)) ∧ w'.heap[w.heap.size + 1]? = some (.cells #[.int .i64 0, .slice none 0 0, .slice none 0 0] 43 (0, 0)) ∧ Below w.heap.size w w') (first | exact ⟨partAt_blk hbox (by rw [cfgL_length]; decide) rfl, blk_drew hbox, blk_drew hres, hbl.drew⟩ | exact ⟨partAt_blk hbox (by rw [cfgL_length]; decide) rfl, hbox, hres, hbl⟩)
    (first | (go_at_call 72; refine (back_plain c hr Hm.out _ l _ (RB.tail (n := l.length) (H.out.keep hbl.drew (Nat.le_refl _))) Hl.out).mono ?_; rintro e w5 ⟨r1, rfl, hown, hb5⟩; replace hbox := blk_belowA hb5 (blk_drew hbox); replace hres := blk_belowA hb5 (blk_drew hres); replace hbl := hbl.drew.trans (hb5.mono hbl.size)))
  have hz5 := hbl.size
  obtain ⟨g1, cap1, rfl, hg1, hc1⟩ := owns_some hown (by omega)
  have hrb := Rd.of_owns hown
  obtain ⟨s, hs⟩ := Int.eq_ofNat_of_zero_le (show 0 ≤ c.sid by omega)
  have Hs := Lib.hid hs
  have s1 : 1 ≤ s := by omega
  have s2 : s < l.length := by have := Hl.out; omega
  have hv1 : RB w5 (.slice (some ⟨g1, 0, none⟩) s cap1) (l.take s) := by simpa using RB.sub hrb 0 s cap1 (by omega) (by omega)
  have hv2 : RB w5 (.slice (some ⟨g1, s, none⟩) (l.length - s) (cap1 - s)) (l.drop s) := by
    have := RB.sub hrb s (l.length - s) (cap1 - s) (by omega) (by omega)
    rw [Nat.zero_add, List.take_of_length_le (by simp)] at this
    exact this
  have c5 : w5.cell? ⟨b, o, none⟩ = some (.int .u8 b0.toNat) := (hbl.cell (p := ⟨b, o, none⟩) hb0).trans c0
  have d5 : w5.cell? ⟨w.heap.size, 1, none⟩ = some (.int .i64 (s : Int)) := cell_blk hbox (by rw [← Hs.out]; rfl)
  clear hs hown hrb hbox hb5
  have ltake : (l.take s).length = s := by simp; omega
  have ldrop : (l.drop s).length = l.length - s := by simp
  have mono : ∀ W W' : World, Below W.heap.size W W' → (W.cell? ⟨b, o, none⟩ = some (.int .u8 b0.toNat) ∧ W.cell? ⟨w.heap.size, 1, none⟩ = some (.int .i64 (s : Int)) ∧ Below w.heap.size w W ∧ RB W (.slice (some ⟨g1, 0, none⟩) s cap1) (l.take s) ∧ RB W (.slice (some ⟨g1, s, none⟩) (l.length - s) (cap1 - s)) (l.drop s) ∧ okBlk W (w.heap.size + 1) = some 3) → (W'.cell? ⟨b, o, none⟩ = some (.int .u8 b0.toNat) ∧ W'.cell? ⟨w.heap.size, 1, none⟩ = some (.int .i64 (s : Int)) ∧ Below w.heap.size w W' ∧ RB W' (.slice (some ⟨g1, 0, none⟩) s cap1) (l.take s) ∧ RB W' (.slice (some ⟨g1, s, none⟩) (l.length - s) (cap1 - s)) (l.drop s) ∧ okBlk W' (w.heap.size + 1) = some 3) := fun W W' hb ⟨a1, a2, a3, a4, a5, a6⟩ =>
    ⟨(hb.cell (p := ⟨b, o, none⟩) (cell_lt a1)).trans a1, (hb.cell (p := ⟨w.heap.size, 1, none⟩) (cell_lt a2)).trans a2, a3.trans (hb.mono a3.size), a4.keep hb (Nat.le_refl _), a5.keep hb (Nat.le_refl _), by obtain ⟨l3, t3, e1, e2⟩ := okBlk_some a6; rw [okBlk_blk (blk_belowA hb e2), e1]⟩
  have after : ∀ (W : World) (cs : Array Value), cs.size = 3 → (W.cell? ⟨b, o, none⟩ = some (.int .u8 b0.toNat) ∧ W.cell? ⟨w.heap.size, 1, none⟩ = some (.int .i64 (s : Int)) ∧ Below w.heap.size w W ∧ RB W (.slice (some ⟨g1, 0, none⟩) s cap1) (l.take s) ∧ RB W (.slice (some ⟨g1, s, none⟩) (l.length - s) (cap1 - s)) (l.drop s) ∧ okBlk W (w.heap.size + 1) = some 3) → ((putAt W (.pointer (some ⟨w.heap.size + 1, 0, none⟩)) (.agg cs)).cell? ⟨b, o, none⟩ = some (.int .u8 b0.toNat) ∧ (putAt W (.pointer (some ⟨w.heap.size + 1, 0, none⟩)) (.agg cs)).cell? ⟨w.heap.size, 1, none⟩ = some (.int .i64 (s : Int)) ∧ Below w.heap.size w (putAt W (.pointer (some ⟨w.heap.size + 1, 0, none⟩)) (.agg cs)) ∧ RB (putAt W (.pointer (some ⟨w.heap.size + 1, 0, none⟩)) (.agg cs)) (.slice (some ⟨g1, 0, none⟩) s cap1) (l.take s) ∧ RB (putAt W (.pointer (some ⟨w.heap.size + 1, 0, none⟩)) (.agg cs)) (.slice (some ⟨g1, s, none⟩) (l.length - s) (cap1 - s)) (l.drop s) ∧ okBlk (putAt W (.pointer (some ⟨w.heap.size + 1, 0, none⟩)) (.agg cs)) (w.heap.size + 1) = some 3) := by
    intro W cs hcs ⟨a1, a2, a3, a4, a5, a6⟩
    obtain ⟨l3, t3, e1, e2⟩ := okBlk_some a6
    have hp := putAt_blk (o := 0) (vs := cs.toList) e2
    rw [Array.toArray_toList] at hp
    rw [hp]
    have hne : b ≠ w.heap.size + 1 := by omega
    have hng : g1 ≠ w.heap.size + 1 := by have := hg1; simp at this; omega
    refine ⟨?_, ?_, below_setRow a3 (by omega) _, a4.setRow hng _, a5.setRow hng _, ?_⟩
    · rw [cell_setRow_other _ _ _ ⟨b, o, none⟩ hne]; exact a1
    · rw [cell_setRow_other _ _ _ ⟨w.heap.size, 1, none⟩ (by simp)]; exact a2
    · rw [okBlk_blk (blk_row e2 _), splice_length _ _ _ (by simp; omega), e1]
  have first5 : w5.cell? ⟨b, o, none⟩ = some (.int .u8 b0.toNat) ∧ w5.cell? ⟨w.heap.size, 1, none⟩ = some (.int .i64 (s : Int)) ∧ Below w.heap.size w w5 ∧ RB w5 (.slice (some ⟨g1, 0, none⟩) s cap1) (l.take s) ∧ RB w5 (.slice (some ⟨g1, s, none⟩) (l.length - s) (cap1 - s)) (l.drop s) ∧ okBlk w5 (w.heap.size + 1) = some 3 := ⟨c5, d5, hbl, hv1, hv2, okBlk_blk hres⟩
  have e1 : (0 : Int) ≤ s := by omega
  have e2 : (s : Int) ≤ l.length := by omega
  have e3 : (s : Int) ≤ cap1 := by omega
  have e4 : ¬ cap1 = s := by omega
  go_wp2
  clear c5 d5
  go_region_held3 (fun w' => w'.cell? ⟨b, o, none⟩ = some (.int .u8 b0.toNat) ∧ w'.cell? ⟨w.heap.size, 1, none⟩ = some (.int .i64 (s : Int)) ∧ Below w.heap.size w w' ∧ RB w' (.slice (some ⟨g1, 0, none⟩) s cap1) (l.take s) ∧ RB w' (.slice (some ⟨g1, s, none⟩) (l.length - s) (cap1 - s)) (l.drop s) ∧ okBlk w' (w.heap.size + 1) = some 3) (first | exact mono _ _ (Below.refl _ _).drew first5 | exact mono _ _ ((Below.refl _ _).alloc (Nat.le_refl _) _) (by assumption) | exact mono _ _ hbL (by assumption) | exact after _ _ rfl (by assumption) | exact mono _ _ hbJ (by assumption) | assumption)
    (first | (go_at_call 52; refine (point_any b0 _).mono ?_; rintro e w6 ⟨rfl, rfl⟩) | (go_at_call 73; have _t := tok1; refine (join_any _ [l.take s] _ (rbs_one (hv1.keep (by first | exact ((Below.refl _ _).alloc (Nat.le_refl _) _).drew | exact (((Below.refl _ _).alloc (Nat.le_refl _) _).alloc (by simp) _).drew) (Nat.le_refl _)) (by first | exact blk_drew (blk_new _ _) | exact blk_drew (blk_alloc (blk_new _ _) _) | exact blk_drew (heap_alloc2_new _ _ _))) (by simp) (by simp; omega)).mono ?_; rintro e w8 ⟨r2, rfl, hown2, hbJ⟩; replace hown2 := owns_flat_len hown2 ltake; obtain ⟨g2, cap2, rfl, hg2, hc2⟩ := owns_some hown2 (by omega); have hbK : Below w5.heap.size w5 w8 := Below.trans (by first | exact ((Below.refl _ _).alloc (Nat.le_refl _) _).drew | exact (((Below.refl _ _).alloc (Nat.le_refl _) _).alloc (by simp) _).drew) (hbJ.mono (by first | (simp; done) | (simp; omega))); clear _t tok1) | (go_at_call 73; refine (join_any _ [l.drop s] _ (rbs_one (hv2.keep (by first | exact hbK | exact hbK.alloc hbK.size _) (Nat.le_refl _)) (by first | exact blk_new _ _ | exact blk_belowA hbJ (blk_drew (blk_new _ _)) | exact blk_belowA hbJ (blk_drew (blk_alloc (blk_new _ _) _)) | exact blk_belowA hbJ (blk_drew (heap_alloc2_new _ _ _)))) (by simp) (by simp; omega)).mono ?_; rintro e w9 ⟨r3, rfl, hown3, hbL⟩; replace hown3 := owns_flat_len hown3 ldrop; obtain ⟨g3, cap3, rfl, hg3, hc3⟩ := owns_some hown3 (by omega); have hbM : Below w5.heap.size w5 w9 := Below.trans (by first | exact hbK | exact hbK.alloc hbK.size _) (hbL.mono (by have := hbK.size; first | omega | (simp; omega)))))
  all_goals
    go_wp2
    have hz8 := hbK.size
    have hz9 := hbM.size
    have hr9 := blk_belowA hbM hres
    have hg8 : w.heap.size + 1 < w5.heap.size := blk_lt hres
    have k2 : w9.ownsRow w5.heap.size 5 1 (.slice (some ⟨g2, 0, none⟩) s cap2) s (bvals (l.take s)) := owns_below (owns_mono hown2 (by first | (simp; done) | (simp; omega))) (by first | exact hbL | exact ((Below.refl _ _).alloc (Nat.le_refl _) _).trans (hbL.mono (by simp)))
    have k3 : w9.ownsRow w5.heap.size 5 1 (.slice (some ⟨g3, 0, none⟩) (l.length - s) cap3) (l.length - s) (bvals (l.drop s)) := owns_mono hown3 (by first | (simp; done) | omega | (simp; omega))
    rw [putAt_blk (vs := [_, _, _]) hr9]
    refine bodyPost_ret (v := .tuple #[.agg #[.int .i64 ((b0.toNat : Int) / 64), .slice (some ⟨g2, 0, none⟩) s cap2, .slice (some ⟨g3, 0, none⟩) (l.length - s) cap3], .int .i64 0]) (results_agg_tmp (vs := [_, _, _]) rfl _ _ rfl Tryz.underlying43 rfl size_parts rfl rfl (blk_row hr9 _) (fun j hj => by rw [Nat.zero_add]; rfl)) rfl ?_
    refine fin9 k2 k3 hbl hbM hg8 (by omega) Hs.out ltake ldrop
end Go.Proofs.YtdeajkopmkdilaaGreat
