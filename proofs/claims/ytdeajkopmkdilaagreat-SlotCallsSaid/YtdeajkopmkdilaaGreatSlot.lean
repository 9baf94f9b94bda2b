/- slot.Slots: each method by its contract. -/
import Derived.Test.YtdeajkopmkdilaaGreatMode
open Go Go.RowKit
namespace Go.Proofs.YtdeajkopmkdilaaGreat
/-- Three rows with their stamps; how many were installed. -/
structure Sl where
  r : Nat → Cfg
  st : Nat → Int
  n : Int
def rowL (c : Cfg) (s : Int) : List Value := cfgL c ++ [.int .i64 s]
def slL (S : Sl) : List Value := rowL (S.r 0) (S.st 0) ++ (rowL (S.r 1) (S.st 1) ++ (rowL (S.r 2) (S.st 2) ++ [.int .i64 S.n]))
def czero : Cfg := ⟨0, 0, 0, []⟩
theorem rowL_length (c : Cfg) (s : Int) : (rowL c s).length = 20 := rfl
theorem slL_length (S : Sl) : (slL S).length = 61 := rfl
theorem slL_at (S : Sl) (p j : Nat) (hp : p < 3) (hj : j < 20) : (slL S)[p * 20 + j]? = (rowL (S.r p) (S.st p))[j]? := by
  have h0 := rowL_length (S.r 0) (S.st 0)
  have h1 := rowL_length (S.r 1) (S.st 1)
  have h2 := rowL_length (S.r 2) (S.st 2)
  rcases (show p = 0 ∨ p = 1 ∨ p = 2 by omega) with rfl | rfl | rfl <;>
    simp only [slL, List.getElem?_append, h0, h1, h2] <;> grind
theorem slL_n (S : Sl) : (slL S)[60]? = some (.int .i64 S.n) := rfl
def Sl.set (S : Sl) (p : Nat) (c : Cfg) (s : Int) : Sl := { S with r := fun k => if k = p then c else S.r k, st := fun k => if k = p then s else S.st k }
theorem slL_set (S : Sl) (p : Nat) (hp : p < 3) (c : Cfg) (s : Int) : splice (slL S) (p * 20) (rowL c s) = slL (S.set p c s) := by
  have h0 := rowL_length (S.r 0) (S.st 0)
  have h1 := rowL_length (S.r 1) (S.st 1)
  have h2 := rowL_length (S.r 2) (S.st 2)
  have hc := rowL_length c s
  rcases (show p = 0 ∨ p = 1 ∨ p = 2 by omega) with rfl | rfl | rfl <;>
    (simp only [slL, splice, Sl.set]; apply List.ext_getElem?; intro k; simp only [List.getElem?_append, List.getElem?_take, List.getElem?_drop, List.length_take, List.length_append, List.length_singleton, h0, h1, h2, hc]; grind)
def Sl.setN (S : Sl) (n : Int) : Sl := { S with n := n }
theorem slL_setN (S : Sl) (n : Int) : (slL S).set 60 (.int .i64 n) = slL (S.setN n) := rfl
theorem at_in (b k : Nat) (h1 : k < 3) (w : World) :
    Calls Tryz.prog 74 #[.pointer (some ⟨b, 0, none⟩), .int .i64 (k : Int)] w fun e w' => e = .returned (.pointer (some ⟨b, k * 20, none⟩)) ∧ w = w' := by
  have h2 : (k : Int) < 3 := by omega
  go_enter Tryz.func74, Tryz.ntmps74
  go_wp2
  go_ret
  exact ⟨rfl, rfl⟩
theorem at_out (b : Nat) (p : Int) (h : p < 0 ∨ 3 ≤ p) (w : World) :
    Calls Tryz.prog 74 #[.pointer (some ⟨b, 0, none⟩), .int .i64 p] w fun e w' => e = .returned (.pointer none) ∧ w = w' := by
  rcases h with h | h
  all_goals
    go_enter Tryz.func74, Tryz.ntmps74
    go_wp2
    go_ret
    exact ⟨rfl, rfl⟩
def ptr (b : Nat) : Value := .pointer (some ⟨b, 0, none⟩)
theorem slL_cfg (S : Sl) (k j : Nat) (hk : k < 3) (hj : j < (cfgL (S.r k)).length) : (slL S)[k * 20 + j]? = (cfgL (S.r k))[j]? := by
  rw [cfgL_length] at hj
  rw [slL_at S k j hk (by omega), rowL, List.getElem?_append_left (by rw [cfgL_length]; exact hj)]
theorem cfgL_one (c : Cfg) : (cfgL c).all (·.oneCell') = true := rfl
theorem of_out (b : Nat) (p : Int) (h : p < 0 ∨ 3 ≤ p) (w : World) :
    Calls Tryz.prog 37 #[.pointer (some ⟨b, 0, none⟩), .int .i64 p] w fun e w' => e = .returned (.tuple #[.agg (cfgL czero).toArray, .bool false]) ∧ Below w.heap.size w w' := by
  go_enter Tryz.func37, Tryz.ntmps37
  go_wp2_with (first | (go_at_call 74; refine (at_out b p h _).mono ?_; rintro e w' ⟨rfl, rfl⟩) | ((with_reducible refine at_store 35 ?_); refine wpl_store (vs := cfgL czero) rfl rfl size_cfg (cfgL_length _) (blk_new w _) (by simp [cfgL_length]) (cfgL_one _) ?_))
  refine bodyPost_ret (v := .tuple #[.agg (cfgL czero).toArray, .bool false]) (results_agg_tmp rfl _ _ rfl Tryz.underlying35 rfl size_cfg (cfgL_length _) rfl (blk_row (blk_new w _) _) (fun j hj => ?_)) rfl ⟨rfl, below_setRow ((Below.refl _ _).alloc (Nat.le_refl _) _) (Nat.le_refl _) _⟩
  rw [Nat.zero_add, splice_full _ _ (by simp [cfgL_length])]
theorem of_in (b k : Nat) (hk : k < 3) (S : Sl) (w : World) (hb : w.heap[b]? = some (.cells (slL S).toArray 116 (0, 0))) (hs : S.st k ≠ 0) :
    Calls Tryz.prog 37 #[.pointer (some ⟨b, 0, none⟩), .int .i64 (k : Int)] w fun e w' => e = .returned (.tuple #[.agg (cfgL (S.r k)).toArray, .bool true]) ∧ Below w.heap.size w w' := by
  have hc : w.cell? ⟨b, k * 20 + 19, none⟩ = some (.int .i64 (S.st k)) := cell_blk hb (by rw [slL_at S k 19 hk (by omega)]; rfl)
  have hs' : (S.st k == 0) = false := by simpa using hs
  have hlt := blk_lt hb
  clear hs
  go_enter Tryz.func37, Tryz.ntmps37
  go_wp2_with (first | (go_at_call 74; refine (at_in b k hk _).mono ?_; rintro e w' ⟨rfl, rfl⟩) | ((with_reducible refine at_load 35 ?_); refine wpl_load (vs := cfgL (S.r k)) rfl Tryz.underlying35 rfl size_cfg (cfgL_length _) (blk_alloc hb _) (fun j hj => slL_cfg S k j hk hj) ?_) | ((with_reducible refine at_store 35 ?_); refine wpl_store (vs := cfgL (S.r k)) rfl rfl size_cfg (cfgL_length _) (blk_new w _) (by simp [cfgL_length]) (cfgL_one _) ?_))
  refine bodyPost_ret (v := .tuple #[.agg (cfgL (S.r k)).toArray, .bool true]) (results_agg_tmp rfl _ _ rfl Tryz.underlying35 rfl size_cfg (cfgL_length _) rfl (blk_row (blk_new w _) _) (fun j hj => ?_)) rfl ⟨rfl, below_setRow ((Below.refl _ _).alloc (Nat.le_refl _) _) (Nat.le_refl _) _⟩
  rw [Nat.zero_add, splice_full _ _ (by simp [cfgL_length])]
theorem of_empty (b k : Nat) (hk : k < 3) (S : Sl) (w : World) (hb : w.heap[b]? = some (.cells (slL S).toArray 116 (0, 0))) (hs : S.st k = 0) :
    Calls Tryz.prog 37 #[.pointer (some ⟨b, 0, none⟩), .int .i64 (k : Int)] w fun e w' => e = .returned (.tuple #[.agg (cfgL czero).toArray, .bool false]) ∧ Below w.heap.size w w' := by
  have hc : w.cell? ⟨b, k * 20 + 19, none⟩ = some (.int .i64 0) := cell_blk hb (by rw [slL_at S k 19 hk (by omega)]; rw [hs]; rfl)
  have hlt := blk_lt hb
  clear hs
  go_enter Tryz.func37, Tryz.ntmps37
  go_wp2_with (first | (go_at_call 74; refine (at_in b k hk _).mono ?_; rintro e w' ⟨rfl, rfl⟩) | ((with_reducible refine at_store 35 ?_); refine wpl_store (vs := cfgL czero) rfl rfl size_cfg (cfgL_length _) (blk_new w _) (by simp [cfgL_length]) (cfgL_one _) ?_))
  refine bodyPost_ret (v := .tuple #[.agg (cfgL czero).toArray, .bool false]) (results_agg_tmp rfl _ _ rfl Tryz.underlying35 rfl size_cfg (cfgL_length _) rfl (blk_row (blk_new w _) _) (fun j hj => ?_)) rfl ⟨rfl, below_setRow ((Below.refl _ _).alloc (Nat.le_refl _) _) (Nat.le_refl _) _⟩
  rw [Nat.zero_add, splice_full _ _ (by simp [cfgL_length])]
theorem stamp_out (b : Nat) (p : Int) (h : p < 0 ∨ 3 ≤ p) (w : World) :
    Calls Tryz.prog 38 #[.pointer (some ⟨b, 0, none⟩), .int .i64 p] w fun e w' => e = .returned (.int .i64 0) ∧ w = w' := by
  go_enter Tryz.func38, Tryz.ntmps38
  go_wp2_with (go_at_call 74; refine (at_out b p h _).mono ?_; rintro e w' ⟨rfl, rfl⟩)
  go_ret
  exact ⟨rfl, rfl⟩
theorem stamp_in (b k : Nat) (hk : k < 3) (S : Sl) (w : World) (hb : w.heap[b]? = some (.cells (slL S).toArray 116 (0, 0))) :
    Calls Tryz.prog 38 #[.pointer (some ⟨b, 0, none⟩), .int .i64 (k : Int)] w fun e w' => e = .returned (.int .i64 (S.st k)) ∧ w = w' := by
  have hc : w.cell? ⟨b, k * 20 + 19, none⟩ = some (.int .i64 (S.st k)) := cell_blk hb (by rw [slL_at S k 19 hk (by omega)]; rfl)
  go_enter Tryz.func38, Tryz.ntmps38
  go_wp2_with (go_at_call 74; refine (at_in b k hk _).mono ?_; rintro e w' ⟨rfl, rfl⟩)
  go_ret
  exact ⟨rfl, rfl⟩
theorem size_slot : (Tryz.prog.info? 113).map (·.size) = some 20 := by kernel_rfl
theorem size_slots : (Tryz.prog.info? 116).map (·.size) = some 61 := by kernel_rfl
theorem built_slot (c : Cfg) (n : Int) : Tryz.prog.built 113 [(0, .agg (cfgL c).toArray), (1, .int .i64 n)] = some (rowL c n).toArray := by kernel_rfl
theorem rowL_one (c : Cfg) (s : Int) : (rowL c s).all (·.oneCell') = true := rfl
/-- What Install answers. -/
def Sl.instErr (S : Sl) (p : Int) (c : Cfg) : Int := if p < 0 ∨ 3 ≤ p then 11 else if c.right then (if S.st p.toNat = 0 then 0 else 16) else 10
def Sl.inst (S : Sl) (p : Int) (c : Cfg) : Sl := if S.instErr p c = 0 then (S.setN (S.n + 1)).set p.toNat c (S.n + 1) else S
theorem install_out (b : Nat) (p : Int) (h : p < 0 ∨ 3 ≤ p) (c : Cfg) (w : World) :
    Calls Tryz.prog 50 #[.pointer (some ⟨b, 0, none⟩), .int .i64 p, .agg (cfgL c).toArray] w fun e w' => e = .returned (.int .i64 11) ∧ Below w.heap.size w w' := by
  go_enter Tryz.func50, Tryz.ntmps50
  go_wp2_with (go_at_call 74; refine (at_out b p h _).mono ?_; rintro e w' ⟨rfl, rfl⟩)
  go_ret
  exact ⟨rfl, (Below.refl _ _).alloc (Nat.le_refl _) _⟩
theorem install_form (b k : Nat) (hk : k < 3) (c : Cfg) (w : World) (hr : c.right = false) :
    Calls Tryz.prog 50 #[.pointer (some ⟨b, 0, none⟩), .int .i64 (k : Int), .agg (cfgL c).toArray] w fun e w' => e = .returned (.int .i64 10) ∧ Below w.heap.size w w' := by
  go_enter Tryz.func50, Tryz.ntmps50
  go_wp2_with (first | (go_at_call 74; refine (at_in b k hk _).mono ?_; rintro e w' ⟨rfl, rfl⟩) | ((with_reducible refine at_load 35 ?_); refine wpl_load (vs := cfgL c) rfl Tryz.underlying35 rfl size_cfg (cfgL_length _) (blk_new _ _) (fun j _ => by rw [Nat.zero_add]) ?_) | (go_at_call 63; refine (right_any c _).mono ?_; rintro e w2 ⟨rfl, hb⟩; rw [hr]))
  go_ret
  exact ⟨rfl, ((Below.refl _ _).alloc (Nat.le_refl _) _).trans (hb.mono (by simp))⟩
theorem install_there (b k : Nat) (hk : k < 3) (S : Sl) (c : Cfg) (w : World) (hr : c.right = true) (hS : w.heap[b]? = some (.cells (slL S).toArray 116 (0, 0))) (hs : S.st k ≠ 0) :
    Calls Tryz.prog 50 #[.pointer (some ⟨b, 0, none⟩), .int .i64 (k : Int), .agg (cfgL c).toArray] w fun e w' => e = .returned (.int .i64 16) ∧ Below w.heap.size w w' := by
  have hs' : (S.st k != 0) = true := by simpa using hs
  go_enter Tryz.func50, Tryz.ntmps50
  go_wp2_with (first | (go_at_call 74; refine (at_in b k hk _).mono ?_; rintro e w' ⟨rfl, rfl⟩) | ((with_reducible refine at_load 35 ?_); refine wpl_load (vs := cfgL c) rfl Tryz.underlying35 rfl size_cfg (cfgL_length _) (blk_new _ _) (fun j _ => by rw [Nat.zero_add]) ?_) | (go_at_call 63; refine (right_any c _).mono ?_; rintro e w2 ⟨rfl, hb⟩; rw [hr]; have hc : w2.cell? ⟨b, k * 20 + 19, none⟩ = some (.int .i64 (S.st k)) := cell_blk (blk_belowA hb (blk_alloc hS _)) (by rw [slL_at S k 19 hk (by omega)]; rfl)))
  go_ret
  exact ⟨rfl, ((Below.refl _ _).alloc (Nat.le_refl _) _).trans (hb.mono (by simp))⟩
set_option maxRecDepth 100000 in
set_option maxHeartbeats 1000000 in
theorem install_ok (b k : Nat) (hk : k < 3) (S : Sl) (c : Cfg) (w : World) (hr : c.right = true) (hS : w.heap[b]? = some (.cells (slL S).toArray 116 (0, 0))) (hs : S.st k = 0) (hn0 : 0 ≤ S.n) (hn1 : S.n ≤ 1000000) :
    Calls Tryz.prog 50 #[.pointer (some ⟨b, 0, none⟩), .int .i64 (k : Int), .agg (cfgL c).toArray] w fun e w' => e = .returned (.int .i64 0) ∧ w'.heap[b]? = some (.cells (slL ((S.setN (S.n + 1)).set k c (S.n + 1))).toArray 116 (0, 0)) ∧ But b w w' := by
  have Hs := Lib.hid hs
  clear hs
  go_enter Tryz.func50, Tryz.ntmps50
  go_wp2_with (first | (go_at_call 74; refine (at_in b k hk _).mono ?_; rintro e w' ⟨rfl, rfl⟩) | ((with_reducible refine at_load 35 ?_); refine wpl_load (vs := cfgL c) rfl Tryz.underlying35 rfl size_cfg (cfgL_length _) (blk_new _ _) (fun j _ => by rw [Nat.zero_add]) ?_) | (go_at_call 63; refine (right_any c _).mono ?_; rintro e w2 ⟨rfl, hb⟩; rw [hr]; have hc : w2.cell? ⟨b, k * 20 + 19, none⟩ = some (.int .i64 0) := cell_blk (blk_belowA hb (blk_alloc hS _)) (by rw [slL_at S k 19 hk (by omega), Hs.out]; rfl); have hcn : w2.cell? ⟨b, 60, none⟩ = some (.int .i64 S.n) := cell_blk (blk_belowA hb (blk_alloc hS _)) (slL_n S); have hfn : w2.frozen? ⟨b, 60, none⟩ = false := frozen_blk (blk_belowA hb (blk_alloc hS _))))
  have f1 := blk_setCell (i := 60) (blk_belowA hb (blk_alloc hS (.cells (cfgL c).toArray 35))) (.int .i64 (S.n + 1))
  have f2 := blk_setCell_other (i := 60) (g := b) (blk_belowA hb (blk_new w (.cells (cfgL c).toArray 35))) (by have := blk_lt hS; omega) (.int .i64 (S.n + 1))
  have f3 : But b w (w2.setCell ⟨b, 60, none⟩ (.int .i64 (S.n + 1))) := (((But.refl b w).alloc _).below hb).setCell 60 _
  generalize w2.setCell ⟨b, 60, none⟩ (.int .i64 (S.n + 1)) = W3 at f1 f2 f3 ⊢
  rw [slL_setN] at f1
  refine wp_region_still_tail 8 (by kernel_rfl) (by kernel_rfl) ?_
  simp only [List.take_succ_cons, List.take_zero, List.drop_succ_cons, List.drop_zero]
  show wpStill _ _ (World.drew W3) (fun a' => wpList _ _ _ _ a' (World.drew W3)) _ _
  replace f1 := blk_drew f1
  replace f2 := blk_drew f2
  replace f3 := f3.drew
  generalize World.drew W3 = W4 at f1 f2 f3 ⊢
  have hcn4 : W4.cell? ⟨b, 60, none⟩ = some (.int .i64 (S.n + 1)) := cell_blk f1 (slL_n _)
  clear hc hcn hfn hb hS
  still_step
  (with_reducible refine at_stload 35 ?_); refine st_load (vs := cfgL c) rfl Tryz.underlying35 rfl size_cfg (cfgL_length _) f2 (fun j _ => by rw [Nat.zero_add]) ?_; simp only [Act.put, List.setIfInBounds_toArray, List.set_cons_succ, List.set_cons_zero]
  still_step
  still_step
  still_step
  still_step
  (with_reducible refine at_stbuild 113 ?_)
  refine st_build (vs := rowL c (S.n + 1)) rfl (built_slot c (S.n + 1)) ?_
  simp only [Act.put, List.setIfInBounds_toArray, List.set_cons_succ, List.set_cons_zero]
  still_step
  refine wpStill_nil ?_
  go_wp2_with ((with_reducible refine at_store 113 ?_); refine wpl_store (vs := rowL c (S.n + 1)) rfl rfl size_slot (rowL_length _ _) f1 (by simp [slL_length, rowL_length]; omega) (rowL_one _ _) ?_)
  go_ret
  rw [slL_set _ _ hk]
  refine ⟨rfl, blk_row f1 _, f3.setRow _⟩
end Go.Proofs.YtdeajkopmkdilaaGreat
