/- slot.Slots: Show and Short, of a plain configuration's ids. -/
import Derived.Test.YtdeajkopmkdilaaGreatSlot2
import Derived.Test.YtdeajkopmkdilaaGreatMemIn
import Derived.Test.YtdeajkopmkdilaaGreatCBack3
open Go Go.RowKit
namespace Go.Proofs.YtdeajkopmkdilaaGreat
set_option linter.unusedSimpArgs false
set_option linter.unusedVariables false
set_option maxRecDepth 100000
set_option maxHeartbeats 1000000
def zpartsL : List Value := [.int .i64 0, .slice none 0 0, .slice none 0 0]
theorem zcfg_new (w : World) (c : Cfg) : canPut (w.alloc (.cells #[.int .i64 0, .int .i64 0, .int .i64 0, .int .u8 0, .int .u8 0, .int .u8 0, .int .u8 0, .int .u8 0, .int .u8 0, .int .u8 0, .int .u8 0, .int .u8 0, .int .u8 0, .int .u8 0, .int .u8 0, .int .u8 0, .int .u8 0, .int .u8 0, .int .u8 0] 35)) (.pointer (some ⟨w.heap.size, 0, none⟩)) (.agg (cfgL c).toArray) 19 = true ∧
    putAt (w.alloc (.cells #[.int .i64 0, .int .i64 0, .int .i64 0, .int .u8 0, .int .u8 0, .int .u8 0, .int .u8 0, .int .u8 0, .int .u8 0, .int .u8 0, .int .u8 0, .int .u8 0, .int .u8 0, .int .u8 0, .int .u8 0, .int .u8 0, .int .u8 0, .int .u8 0, .int .u8 0] 35)) (.pointer (some ⟨w.heap.size, 0, none⟩)) (.agg (cfgL c).toArray) = w.alloc (.cells (cfgL c).toArray 35) :=
  ⟨canPut_new w [.int .i64 0, .int .i64 0, .int .i64 0, .int .u8 0, .int .u8 0, .int .u8 0, .int .u8 0, .int .u8 0, .int .u8 0, .int .u8 0, .int .u8 0, .int .u8 0, .int .u8 0, .int .u8 0, .int .u8 0, .int .u8 0, .int .u8 0, .int .u8 0, .int .u8 0] (cfgL c) 35 (cfgL_length _) (by decide) (cfgL_one _), putAt_new w [.int .i64 0, .int .i64 0, .int .i64 0, .int .u8 0, .int .u8 0, .int .u8 0, .int .u8 0, .int .u8 0, .int .u8 0, .int .u8 0, .int .u8 0, .int .u8 0, .int .u8 0, .int .u8 0, .int .u8 0, .int .u8 0, .int .u8 0, .int .u8 0, .int .u8 0] (cfgL c) 35 rfl⟩
theorem show_plain (b k : Nat) (hk : k < 3) (S : Sl) (hst : S.st k ≠ 0) (hr : (S.r k).right = true) (hm : (S.r k).mode = 0) (ib io cc : Nat) (b0 : UInt8) (l : List UInt8) (w : World) (hS : w.heap[b]? = some (.cells (slL S).toArray 116 (0, 0)))
    (h : RB w (.slice (some ⟨ib, io, none⟩) (l.length + 1) cc) (b0 :: l)) (hp : b0.toNat / 64 = k) (hl : (l.length : Int) = (S.r k).sid + (S.r k).nonce) (ht : b0.toNat % 64 = l.length) :
    Calls Tryz.prog 17 #[.pointer (some ⟨b, 0, none⟩), .slice (some ⟨ib, io, none⟩) (l.length + 1) cc] w fun e w' => ∃ r, e = .returned (.tuple #[r, .int .i64 0]) ∧ IsParts w' w.heap.size r ⟨(k : Nat), l.take (S.r k).sid.toNat, l.drop (S.r k).sid.toNat⟩ ∧ Below w.heap.size w w' := by
  have c0 : w.cell? ⟨ib, io, none⟩ = some (.int .u8 b0.toNat) := by
    obtain ⟨ao, c', e, _, hh⟩ := h
    cases e
    rcases hh with ⟨h0, _⟩ | ⟨b', o', e2, hh⟩
    · simp at h0
    · cases e2; exact hh 0 (by simp [bvals])
  have hb0 := cell_lt c0
  have H := Lib.hid h
  have Hp := Lib.hid hp
  have Hl := Lib.hid hl
  have Ht := Lib.hid ht
  have Hm := Lib.hid hm
  have q0 : (0 : Int) < (l.length : Int) + 1 := by omega
  clear h hp hl ht hm
  go_enter Tryz.func17, Tryz.ntmps17
  go_wp2_with (go_at_call 52; refine (point_any b0 _).mono ?_; rintro e w' ⟨rfl, rfl⟩; rw [Hp.out])
  refine (of_in b k hk S _ (blk_alloc hS _) hst).mono ?_
  rintro e w2 ⟨rfl, hb⟩
  have hz2 := hb.size
  have hr2 : w2.heap[w.heap.size]? = some (.cells zpartsL.toArray 43 (0, 0)) := blk_belowA hb (blk_new _ _)
  have hw2 : Below w.heap.size w w2 := ((Below.refl _ _).alloc (Nat.le_refl _) _).trans (hb.mono (by simp))
  obtain ⟨hcan, hput⟩ := zcfg_new w2 (S.r k)
  have Hcan := Lib.hid hcan
  have Hput := Lib.hid hput
  clear hcan hput
  go_wp2_with (first | ((with_reducible refine at_store 35 ?_); refine wpl_put size_cfg Hcan.out Hput.out ?_) | ((with_reducible refine at_load 35 ?_); refine wpl_load (vs := cfgL (S.r k)) rfl Tryz.underlying35 rfl size_cfg (cfgL_length _) (blk_new _ _) (fun j _ => by rw [Nat.zero_add]) ?_))
  refine (cback_plain (S.r k) hr Hm.out ib io cc b0 l _ ((H.out.keep hw2 (Nat.le_refl _)).keep ((Below.refl _ _).alloc (Nat.le_refl _) _) (Nat.le_refl _)) Hl.out Ht.out).mono ?_
  rintro e w5 ⟨r, rfl, ⟨vs, vn, rfl, ho1, ho2⟩, hb5⟩
  obtain ⟨n1, hn1⟩ : ∃ n, (l.take (S.r k).sid.toNat).length = n := ⟨_, rfl⟩
  obtain ⟨n2, hn2⟩ : ∃ n, (l.drop (S.r k).sid.toNat).length = n := ⟨_, rfl⟩
  simp only [hn1, hn2] at ho1 ho2
  have Hn1 := Lib.hid hn1
  have Hn2 := Lib.hid hn2
  clear hn1 hn2
  obtain ⟨a1, c1, rfl⟩ := owns_form ho1
  obtain ⟨a2, c2, rfl⟩ := owns_form ho2
  have hz5 := hb5.size
  simp only [World.size_alloc] at hz2 hz5
  have hr5 : w5.heap[w.heap.size]? = some (.cells zpartsL.toArray 43 (0, 0)) := blk_belowA hb5 (blk_alloc hr2 _)
  have hw5 : Below w.heap.size w w5 := hw2.trans ((((Below.refl _ _).alloc (Nat.le_refl _) _).trans (hb5.mono (by simp))).mono hw2.size)
  go_wp2_with ((with_reducible refine at_store 43 ?_); refine wpl_store (vs := [_, _, _]) rfl rfl size_parts rfl hr5 (Nat.le_refl 3) rfl ?_)
  refine bodyPost_ret (v := .tuple #[.agg #[.int .i64 ((b0.toNat : Int) / 64), .slice a1 n1 c1, .slice a2 n2 c2], .int .i64 0]) (results_agg_tmp (vs := [_, _, _]) rfl _ _ rfl Tryz.underlying43 rfl size_parts rfl rfl (blk_row hr5 _) (fun j hj => by rw [Nat.zero_add]; rfl)) rfl ⟨_, rfl, ⟨.slice a1 n1 c1, .slice a2 n2 c2, ?_, ?_, ?_⟩, below_setRow hw5 (Nat.le_refl _) _⟩
  · have := Hp.out
    simp only []
    rw [show ((b0.toNat : Int) / 64) = (k : Int) from by omega]
  · simp only [Hn1.out]
    exact owns_mono (owns_setRow ho1 (by simp; omega) _) (by simp; omega)
  · simp only [Hn2.out]
    exact owns_mono (owns_setRow ho2 (by simp; omega) _) (by simp; omega)
theorem show_none (b k : Nat) (hk : k < 3) (S : Sl) (hst : S.st k = 0) (ib io n cc : Nat) (b0 : UInt8) (w : World) (hS : w.heap[b]? = some (.cells (slL S).toArray 116 (0, 0)))
    (c0 : w.cell? ⟨ib, io, none⟩ = some (.int .u8 b0.toNat)) (hn : 0 < n) (hp : b0.toNat / 64 = k) :
    Calls Tryz.prog 17 #[.pointer (some ⟨b, 0, none⟩), .slice (some ⟨ib, io, none⟩) n cc] w fun e w' => e = .returned (.tuple #[.agg zpartsL.toArray, .int .i64 17]) ∧ Below w.heap.size w w' := by
  have hb0 := cell_lt c0
  have Hp := Lib.hid hp
  have q0 : (0 : Int) < (n : Int) := by omega
  have q1 : ((n : Int) == 0) = false := by rw [beq_eq_false_iff_ne]; omega
  clear hp
  go_enter Tryz.func17, Tryz.ntmps17
  go_wp2_with (go_at_call 52; refine (point_any b0 _).mono ?_; rintro e w' ⟨rfl, rfl⟩; rw [Hp.out])
  refine (of_empty b k hk S _ (blk_alloc hS _) hst).mono ?_
  rintro e w2 ⟨rfl, hb⟩
  have hz2 := hb.size
  simp only [World.size_alloc] at hz2
  have hr2 : w2.heap[w.heap.size]? = some (.cells zpartsL.toArray 43 (0, 0)) := blk_belowA hb (blk_new _ _)
  have hw2 : Below w.heap.size w w2 := ((Below.refl _ _).alloc (Nat.le_refl _) _).trans (hb.mono (by simp))
  obtain ⟨hcan, hput⟩ := zcfg_new w2 czero
  have Hcan := Lib.hid hcan
  have Hput := Lib.hid hput
  clear hcan hput
  go_wp2_with (first | ((with_reducible refine at_store 35 ?_); refine wpl_put size_cfg Hcan.out Hput.out ?_) | ((with_reducible refine at_store 43 ?_); refine wpl_store (vs := zpartsL) rfl rfl size_parts rfl (blk_alloc hr2 _) (Nat.le_refl 3) rfl ?_))
  refine bodyPost_ret (v := .tuple #[.agg zpartsL.toArray, .int .i64 17]) (results_agg_tmp (vs := zpartsL) rfl _ _ rfl Tryz.underlying43 rfl size_parts rfl rfl (blk_row (blk_alloc hr2 _) _) (fun j hj => by rw [Nat.zero_add]; rfl)) rfl ⟨rfl, below_setRow (hw2.alloc (by omega) _) (Nat.le_refl _) _⟩
end Go.Proofs.YtdeajkopmkdilaaGreat
