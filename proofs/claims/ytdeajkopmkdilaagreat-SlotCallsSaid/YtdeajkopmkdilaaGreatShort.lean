/- slot.Slots: Short, of a plain configuration's ids. -/
import Derived.Test.YtdeajkopmkdilaaGreatShow
import Derived.StillTailTactics
open Go Go.RowKit
namespace Go.Proofs.YtdeajkopmkdilaaGreat
set_option linter.unusedSimpArgs false
set_option linter.unusedVariables false
set_option maxRecDepth 100000
set_option maxHeartbeats 1000000
attribute [local go_sem ↓] exec_load_cfg exec_store_parts
attribute [local go_sem] canPut_eq Value.oneCell'
theorem short_plain (b k : Nat) (hk : k < 3) (S : Sl) (hst : S.st k ≠ 0) (hr : (S.r k).right = true) (hm : (S.r k).mode = 0) (ib io cc : Nat) (f0 b0 : UInt8) (l more : List UInt8) (w : World) (hS : w.heap[b]? = some (.cells (slL S).toArray 116 (0, 0)))
    (h : RB w (.slice (some ⟨ib, io, none⟩) (l.length + more.length + 2) cc) (f0 :: b0 :: (l ++ more))) (hp : b0.toNat / 64 = k) (hl : (l.length : Int) = (S.r k).sid + (S.r k).nonce) (ht : b0.toNat % 64 = l.length) (hmo : more.length ≤ 1000000) :
    Calls Tryz.prog 19 #[.pointer (some ⟨b, 0, none⟩), .slice (some ⟨ib, io, none⟩) (l.length + more.length + 2) cc] w fun e w' => ∃ r, e = .returned (.tuple #[r, .int .i64 0]) ∧ IsParts w' w.heap.size r ⟨(k : Nat), l.take (S.r k).sid.toNat, l.drop (S.r k).sid.toNat⟩ ∧ Below w.heap.size w w' := by
  obtain ⟨_, _, h1, h2, h3, h4, h5⟩ := right_bd _ hr
  have hl5 : 5 ≤ l.length := by omega
  have hl19 : l.length ≤ 19 := by omega
  have hcc : l.length + more.length + 2 ≤ cc := by obtain ⟨ao, c', e, hh, _⟩ := h; simp only [Value.slice.injEq] at e; obtain ⟨_, _, rfl⟩ := e; simp at hh; omega
  have ht1 : RB w (.slice (some ⟨ib, io + 1, none⟩) (l.length + more.length + 1) (cc - 1)) (b0 :: (l ++ more)) := RB.tail (n := l.length + more.length + 1) h
  have hsub : RB w (.slice (some ⟨ib, io + 1, none⟩) (l.length + 1) (cc - 1)) (b0 :: l) := by
    have := RB.sub ht1 0 (l.length + 1) (cc - 1) (by first | (simp; done) | (simp; omega)) (by omega)
    simpa using this
  have c0 : w.cell? ⟨ib, io + 1, none⟩ = some (.int .u8 b0.toNat) := by
    obtain ⟨ao, c', e, _, hh⟩ := hsub
    cases e
    rcases hh with ⟨h0, _⟩ | ⟨b', o', e2, hh⟩
    · simp at h0
    · cases e2; exact hh 0 (by simp [bvals])
  have hb0 := cell_lt c0
  have hsz : (S.r k).size = 1 + ((S.r k).sid + (S.r k).nonce) := by unfold Cfg.size; rw [if_pos hr]
  have hsz2 : (S.r k).size = (l.length : Int) + 1 := by omega
  have H := Lib.hid hsub
  have Hp := Lib.hid hp
  have Hl := Lib.hid hl
  have Ht := Lib.hid ht
  have Hm := Lib.hid hm
  have Hsz := Lib.hid hsz2
  have q0 : ¬ ((l.length : Int) + more.length + 2 < 2) := by omega
  have q1 : (1 : Int) ≤ (l.length : Int) + more.length + 2 := by omega
  have q2 : ¬ cc = 1 := by omega
  have q3 : (0 : Int) < (l.length : Int) + more.length + 1 := by omega
  clear h hp hl ht hm hsz hsz2 ht1 hsub
  go_enter Tryz.func19, Tryz.ntmps19
  go_wp2_with (go_at_call 52; refine (point_any b0 _).mono ?_; rintro e w' ⟨rfl, rfl⟩; rw [Hp.out])
  refine (of_in b k hk S _ (blk_alloc hS _) hst).mono ?_
  rintro e w2 ⟨rfl, hb⟩
  have hz2 := hb.size
  have hr2 : w2.heap[w.heap.size]? = some (.cells zpartsL.toArray 43 (0, 0)) := blk_belowA hb (blk_new _ _)
  have hw2 : Below w.heap.size w w2 := ((Below.refl _ _).alloc (Nat.le_refl _) _).trans (hb.mono (by simp))
  obtain ⟨hcan, hput⟩ := zcfg_new w2 (S.r k)
  have Hcan := Lib.hid hcan
  have Hput := Lib.hid hput
  clear hcan hput
  have hbox : (w2.alloc (.cells (cfgL (S.r k)).toArray 35)).heap[w2.heap.size]? = some (.cells (cfgL (S.r k)).toArray 35 (0, 0)) := blk_new _ _
  replace hr2 := blk_alloc hr2 (.cells (cfgL (S.r k)).toArray 35)
  replace hw2 := hw2.alloc hw2.size (.cells (cfgL (S.r k)).toArray 35)
  go_wp2_with (first | ((with_reducible refine at_store 35 ?_); refine wpl_put size_cfg Hcan.out Hput.out ?_) | ((with_reducible refine at_load 35 ?_); refine wpl_load (vs := cfgL (S.r k)) rfl Tryz.underlying35 rfl size_cfg (cfgL_length _) hbox (fun j _ => by rw [Nat.zero_add]) ?_) | (go_at_call 51; refine (size_any (S.r k) _).mono ?_; rintro e w3 ⟨rfl, hb3⟩; rw [Hsz.out]; replace hbox := blk_belowA hb3 hbox; replace hr2 := blk_belowA hb3 hr2; replace hw2 := hw2.trans (hb3.mono hw2.size)))
  have hok := okBlk_blk hr2
  have hpa : partAt w3 (.pointer (some ⟨w2.heap.size, 0, none⟩)) 19 = some (cfgL (S.r k)) := partAt_blk hbox (by rw [cfgL_length]; decide) rfl
  have hz3 := hb3.size
  simp only [World.size_alloc] at hz2 hz3
  have mono : ∀ W W' : World, Below W.heap.size W W' → (partAt W (.pointer (some ⟨w2.heap.size, 0, none⟩)) 19 = some (cfgL (S.r k)) ∧ okBlk W w.heap.size = some 3 ∧ Below w.heap.size w W) → (partAt W' (.pointer (some ⟨w2.heap.size, 0, none⟩)) 19 = some (cfgL (S.r k)) ∧ okBlk W' w.heap.size = some 3 ∧ Below w.heap.size w W') :=
    fun W W' hb ⟨a1, a2, a3⟩ => ⟨partAt_below a1 hb, okBlk_below a2 hb, a3.trans (hb.mono a3.size)⟩
  have after : ∀ (W : World) (cs : Array Value), cs.size = 3 → (partAt W (.pointer (some ⟨w2.heap.size, 0, none⟩)) 19 = some (cfgL (S.r k)) ∧ okBlk W w.heap.size = some 3 ∧ Below w.heap.size w W) → (partAt (putAt W (.pointer (some ⟨w.heap.size, 0, none⟩)) (.agg cs)) (.pointer (some ⟨w2.heap.size, 0, none⟩)) 19 = some (cfgL (S.r k)) ∧ okBlk (putAt W (.pointer (some ⟨w.heap.size, 0, none⟩)) (.agg cs)) w.heap.size = some 3 ∧ Below w.heap.size w (putAt W (.pointer (some ⟨w.heap.size, 0, none⟩)) (.agg cs))) :=
    fun W cs hc ⟨a1, a2, a3⟩ => ⟨partAt_put a2 a1 (by omega), okBlk_put a2 (by omega), below_put a3 a2 (Nat.le_refl _)⟩
  have first3 : partAt w3 (.pointer (some ⟨w2.heap.size, 0, none⟩)) 19 = some (cfgL (S.r k)) ∧ okBlk w3 w.heap.size = some 3 ∧ Below w.heap.size w w3 := ⟨hpa, hok, hw2⟩
  have first4 := mono _ _ (Below.refl _ w3).drew first3
  have u0 : (0 : Int) ≤ (l.length : Int) + 1 := by omega
  have u1 : (l.length : Int) + 1 ≤ ((cc - 1 : Nat) : Int) := by omega
  clear hb hb3 hbox hpa hok c0
  go_region_held3 (fun w' => partAt w' (.pointer (some ⟨w2.heap.size, 0, none⟩)) 19 = some (cfgL (S.r k)) ∧ okBlk w' w.heap.size = some 3 ∧ Below w.heap.size w w') (first | exact mono _ _ (Below.refl _ _).drew first3 | exact mono _ _ hbS first4 | exact mono _ _ hbT (by assumption) | exact after _ _ rfl (by assumption) | assumption)
    (first | (go_at_call 51; refine (size_any (S.r k) _).mono ?_; rintro e w6 ⟨rfl, hbS⟩; rw [Hsz.out]; have hS6 := mono _ _ hbS first4) | (go_at_call 35; refine (cback_plain (S.r k) hr Hm.out ib (io + 1) (cc - 1) b0 l _ (H.out.keep hS6.2.2 (Nat.le_refl _)) Hl.out Ht.out).mono ?_; rintro e w7 ⟨r, rfl, ⟨vs, vn, rfl, ho1, ho2⟩, hbT⟩; obtain ⟨n1, hn1⟩ : ∃ n, (l.take (S.r k).sid.toNat).length = n := ⟨_, rfl⟩; obtain ⟨n2, hn2⟩ : ∃ n, (l.drop (S.r k).sid.toNat).length = n := ⟨_, rfl⟩; simp only [hn1, hn2] at ho1 ho2; have Hn1 := Lib.hid hn1; have Hn2 := Lib.hid hn2; clear hn1 hn2; obtain ⟨a1, c1, rfl⟩ := owns_form ho1; obtain ⟨a2, c2, rfl⟩ := owns_form ho2))
  go_wp2
  have hS7 := mono _ _ hbT hS6
  obtain ⟨l0, t0, hl0, hg0, he0⟩ := putAt_some (o := 0) (cs := #[.int .i64 ((b0.toNat : Int) / 64), .slice a1 n1 c1, .slice a2 n2 c2]) hS7.2.1
  rw [he0, splice_full _ _ (by simpa using hl0.symm)]
  have hz6 := hbS.size
  have hz7 := hbT.size
  have hz4 : w3.drew.heap.size = w3.heap.size := rfl
  refine bodyPost_ret (v := .tuple #[.agg #[.int .i64 ((b0.toNat : Int) / 64), .slice a1 n1 c1, .slice a2 n2 c2], .int .i64 0]) (results_agg_tmp (vs := [.int .i64 ((b0.toNat : Int) / 64), .slice a1 n1 c1, .slice a2 n2 c2]) rfl _ _ rfl Tryz.underlying43 rfl size_parts rfl rfl (blk_row hg0 _) (fun j hj => by rw [Nat.zero_add])) rfl ⟨_, rfl, ⟨.slice a1 n1 c1, .slice a2 n2 c2, ?_, ?_, ?_⟩, below_setRow hS7.2.2 (Nat.le_refl _) _⟩
  · have := Hp.out
    simp only []
    rw [show ((b0.toNat : Int) / 64) = (k : Int) from by omega]
  · simp only [Hn1.out]
    exact owns_mono (owns_setRow ho1 (by omega) _) (by omega)
  · simp only [Hn2.out]
    exact owns_mono (owns_setRow ho2 (by omega) _) (by omega)
end Go.Proofs.YtdeajkopmkdilaaGreat
