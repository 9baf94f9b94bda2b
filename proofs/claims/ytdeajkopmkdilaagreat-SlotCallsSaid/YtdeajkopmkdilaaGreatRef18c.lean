/- crosswayref18.Slots.Install. -/
import Derived.Test.YtdeajkopmkdilaaGreatRef18b
open Go Go.RowKit
namespace Go.Proofs.YtdeajkopmkdilaaGreat
set_option linter.unusedSimpArgs false
set_option maxRecDepth 100000
set_option maxHeartbeats 1000000
theorem rinstall_out (b : Nat) (p : Int) (h : p < 0 ∨ 3 ≤ p) (c : Cfg) (w : World) :
    Calls Tryz.prog 56 #[.pointer (some ⟨b, 0, none⟩), .int .i64 p, .agg (cfgL c).toArray] w fun e w' => e = .returned (.int .i64 11) ∧ Below w.heap.size w w' := by
  rcases h with h | h
  all_goals
    go_enter Tryz.func56, Tryz.ntmps56
    go_wp2
    go_ret
    exact ⟨rfl, (Below.refl _ _).alloc (Nat.le_refl _) _⟩
theorem rinstall_form (b k : Nat) (hk : k < 3) (c : Cfg) (w : World) (hr : c.right = false) :
    Calls Tryz.prog 56 #[.pointer (some ⟨b, 0, none⟩), .int .i64 (k : Int), .agg (cfgL c).toArray] w fun e w' => e = .returned (.int .i64 10) ∧ Below w.heap.size w w' := by
  have h2 : (k : Int) ≤ 2 := by omega
  go_enter Tryz.func56, Tryz.ntmps56
  go_wp2_with (first | ((with_reducible refine at_load 29 ?_); refine wpl_load (vs := cfgL c) rfl Tryz.underlying29 rfl size_rcfg (cfgL_length _) (blk_new _ _) (fun j _ => by rw [Nat.zero_add]) ?_) | (go_at_call 98; refine (rright_any c _).mono ?_; rintro e w2 ⟨rfl, hb⟩; rw [hr]))
  go_ret
  exact ⟨rfl, ((Below.refl _ _).alloc (Nat.le_refl _) _).trans (hb.mono (by simp))⟩
theorem rinstall_there (b k : Nat) (hk : k < 3) (S : Sl) (c : Cfg) (w : World) (hr : c.right = true) (hS : w.heap[b]? = some (.cells (rslL S).toArray 33 (0, 0))) (hs : 0 < S.st k) :
    Calls Tryz.prog 56 #[.pointer (some ⟨b, 0, none⟩), .int .i64 (k : Int), .agg (cfgL c).toArray] w fun e w' => e = .returned (.int .i64 16) ∧ Below w.heap.size w w' := by
  have h2 : (k : Int) ≤ 2 := by omega
  go_enter Tryz.func56, Tryz.ntmps56
  go_wp2_with (first | ((with_reducible refine at_load 29 ?_); refine wpl_load (vs := cfgL c) rfl Tryz.underlying29 rfl size_rcfg (cfgL_length _) (blk_new _ _) (fun j _ => by rw [Nat.zero_add]) ?_) | (go_at_call 98; refine (rright_any c _).mono ?_; rintro e w2 ⟨rfl, hb⟩; rw [hr]; have hc : w2.cell? ⟨b, 57 + k, none⟩ = some (.int .i64 (S.st k)) := cell_blk (blk_belowA hb (blk_alloc hS _)) (rslL_st S k hk)))
  go_ret
  exact ⟨rfl, ((Below.refl _ _).alloc (Nat.le_refl _) _).trans (hb.mono (by simp))⟩
theorem rinstall_ok (b k : Nat) (hk : k < 3) (S : Sl) (c : Cfg) (w : World) (hr : c.right = true) (hS : w.heap[b]? = some (.cells (rslL S).toArray 33 (0, 0))) (hs : S.st k = 0) (hn0 : 0 ≤ S.n) (hn1 : S.n ≤ 1000000) :
    Calls Tryz.prog 56 #[.pointer (some ⟨b, 0, none⟩), .int .i64 (k : Int), .agg (cfgL c).toArray] w fun e w' => e = .returned (.int .i64 0) ∧ w'.heap[b]? = some (.cells (rslL ((S.setN (S.n + 1)).set k c (S.n + 1))).toArray 33 (0, 0)) ∧ But b w w' := by
  have Hs := Lib.hid hs
  have h2 : (k : Int) ≤ 2 := by omega
  have h3 : (k : Int) < 3 := by omega
  clear hs
  go_enter Tryz.func56, Tryz.ntmps56
  go_wp2_with (first | ((with_reducible refine at_load 29 ?_); refine wpl_load (vs := cfgL c) rfl Tryz.underlying29 rfl size_rcfg (cfgL_length _) (blk_new _ _) (fun j _ => by rw [Nat.zero_add]) ?_) | (go_at_call 98; refine (rright_any c _).mono ?_; rintro e w2 ⟨rfl, hb⟩; rw [hr]; have hc : w2.cell? ⟨b, 57 + k, none⟩ = some (.int .i64 0) := cell_blk (blk_belowA hb (blk_alloc hS _)) (by rw [rslL_st S k hk, Hs.out]); have hcn : w2.cell? ⟨b, 60, none⟩ = some (.int .i64 S.n) := cell_blk (blk_belowA hb (blk_alloc hS _)) (rslL_n S); have hfn : w2.frozen? ⟨b, 60, none⟩ = false := frozen_blk (blk_belowA hb (blk_alloc hS _))))
  have f1 := blk_setCell (i := 60) (blk_belowA hb (blk_alloc hS (.cells (cfgL c).toArray 29))) (.int .i64 (S.n + 1))
  have f2 := blk_setCell_other (i := 60) (g := b) (blk_belowA hb (blk_new w (.cells (cfgL c).toArray 29))) (by have := blk_lt hS; omega) (.int .i64 (S.n + 1))
  have f3 : But b w (w2.setCell ⟨b, 60, none⟩ (.int .i64 (S.n + 1))) := (((But.refl b w).alloc _).below hb).setCell 60 _
  generalize w2.setCell ⟨b, 60, none⟩ (.int .i64 (S.n + 1)) = W3 at f1 f2 f3 ⊢
  rw [rslL_setN] at f1
  refine wp_region_still_tail 6 (by kernel_rfl) (by kernel_rfl) ?_
  simp only [List.take_succ_cons, List.take_zero, List.drop_succ_cons, List.drop_zero]
  show wpStill _ _ (World.drew W3) (fun a' => wpList _ _ _ _ a' (World.drew W3)) _ _
  replace f1 := blk_drew f1
  replace f2 := blk_drew f2
  replace f3 := f3.drew
  generalize World.drew W3 = W4 at f1 f2 f3 ⊢
  clear hc hcn hfn hb hS
  still_step
  still_step
  (with_reducible refine at_stload 29 ?_); refine st_load (vs := cfgL c) rfl Tryz.underlying29 rfl size_rcfg (cfgL_length _) f2 (fun j _ => by rw [Nat.zero_add]) ?_; simp only [Act.put, List.setIfInBounds_toArray, List.set_cons_succ, List.set_cons_zero]
  still_step
  still_step
  still_step
  refine wpStill_nil ?_
  go_wp2_with ((with_reducible refine at_store 29 ?_); refine wpl_store (vs := cfgL c) rfl rfl size_rcfg (cfgL_length _) f1 (by simp [rslL_length, cfgL_length]; omega) (cfgL_one _) ?_)
  have f4 := blk_row f1 (splice (rslL (S.setN (S.n + 1))) (k * 19) (cfgL c)).toArray
  have f5 : But b w (W4.setRow b (splice (rslL (S.setN (S.n + 1))) (k * 19) (cfgL c)).toArray) := f3.setRow _
  generalize W4.setRow b (splice (rslL (S.setN (S.n + 1))) (k * 19) (cfgL c)).toArray = W5 at f4 f5 ⊢
  rw [rslL_setR _ k hk] at f4
  clear f1 f2 f3
  have g1 : W5.cell? ⟨b, 60, none⟩ = some (.int .i64 (S.n + 1)) := cell_blk f4 (rslL_n _)
  have g2 : W5.cell? ⟨b, 57 + k, none⟩ = some (.int .i64 (S.st k)) := cell_blk f4 (rslL_st _ k hk)
  have g3 : W5.frozen? ⟨b, 57 + k, none⟩ = false := frozen_blk f4
  go_still_tail 8, (by kernel_rfl)
  go_wp2
  go_ret
  have f6 := blk_setCell (i := 57 + k) (blk_drew f4) (.int .i64 (S.n + 1))
  rw [rslL_setS _ k hk, set_eq] at f6
  exact ⟨rfl, f6, f5.drew.setCell _ _⟩
end Go.Proofs.YtdeajkopmkdilaaGreat
