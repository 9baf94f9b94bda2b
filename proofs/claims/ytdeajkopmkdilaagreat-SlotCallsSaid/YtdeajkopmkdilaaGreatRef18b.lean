/- crosswayref18.Slots: Install, Retire, Has. -/
import Derived.Test.YtdeajkopmkdilaaGreatRef18
open Go Go.RowKit
namespace Go.Proofs.YtdeajkopmkdilaaGreat
set_option linter.unusedSimpArgs false
set_option maxRecDepth 100000
set_option maxHeartbeats 1000000
def rslL (S : Sl) : List Value := cfgL (S.r 0) ++ (cfgL (S.r 1) ++ (cfgL (S.r 2) ++ [.int .i64 (S.st 0), .int .i64 (S.st 1), .int .i64 (S.st 2), .int .i64 S.n]))
def Sl.setR (S : Sl) (p : Nat) (c : Cfg) : Sl := { S with r := fun k => if k = p then c else S.r k }
def Sl.setS (S : Sl) (p : Nat) (s : Int) : Sl := { S with st := fun k => if k = p then s else S.st k }
theorem set_eq (S : Sl) (p : Nat) (c : Cfg) (s : Int) : (S.setR p c).setS p s = S.set p c s := rfl
theorem rslL_length (S : Sl) : (rslL S).length = 61 := rfl
theorem rslL_cfg (S : Sl) (k j : Nat) (hk : k < 3) (hj : j < (cfgL (S.r k)).length) : (rslL S)[k * 19 + j]? = (cfgL (S.r k))[j]? := by
  have h0 := cfgL_length (S.r 0)
  have h1 := cfgL_length (S.r 1)
  have h2 := cfgL_length (S.r 2)
  rw [cfgL_length] at hj
  rcases (show k = 0 ∨ k = 1 ∨ k = 2 by omega) with rfl | rfl | rfl <;>
    simp only [rslL, List.getElem?_append, h0, h1, h2] <;> grind
theorem rslL_st (S : Sl) (k : Nat) (hk : k < 3) : (rslL S)[57 + k]? = some (.int .i64 (S.st k)) := by
  rcases (show k = 0 ∨ k = 1 ∨ k = 2 by omega) with rfl | rfl | rfl <;> rfl
theorem rslL_n (S : Sl) : (rslL S)[60]? = some (.int .i64 S.n) := rfl
theorem rslL_setR (S : Sl) (p : Nat) (hp : p < 3) (c : Cfg) : splice (rslL S) (p * 19) (cfgL c) = rslL (S.setR p c) := by
  rcases (show p = 0 ∨ p = 1 ∨ p = 2 by omega) with rfl | rfl | rfl <;> rfl
theorem rslL_setS (S : Sl) (p : Nat) (hp : p < 3) (s : Int) : (rslL S).set (57 + p) (.int .i64 s) = rslL (S.setS p s) := by
  rcases (show p = 0 ∨ p = 1 ∨ p = 2 by omega) with rfl | rfl | rfl <;> rfl
theorem rslL_setN (S : Sl) (n : Int) : (rslL S).set 60 (.int .i64 n) = rslL (S.setN n) := rfl
theorem has_any (b : Nat) (p : Int) (S : Sl) (w : World) (hS : w.heap[b]? = some (.cells (rslL S).toArray 33 (0, 0))) :
    Calls Tryz.prog 58 #[.pointer (some ⟨b, 0, none⟩), .int .i64 p] w fun e w' => e = .returned (.bool (decide (0 ≤ p ∧ p < 3) && decide (0 < S.st p.toNat))) ∧ w = w' := by
  by_cases h0 : 0 ≤ p
  · by_cases h1 : p < 3
    · obtain ⟨k, rfl⟩ := Int.eq_ofNat_of_zero_le h0
      have hk : k < 3 := by omega
      have hc : w.cell? ⟨b, 57 + k, none⟩ = some (.int .i64 (S.st k)) := cell_blk hS (rslL_st S k hk)
      have hd : decide (0 ≤ (k : Int) ∧ (k : Int) < 3) = true := decide_eq_true ⟨h0, h1⟩
      rw [hd, Bool.true_and, Int.toNat_natCast]
      clear hd hS hk
      go_enter Tryz.func58, Tryz.ntmps58
      go_wp2
      go_ret
      exact ⟨rfl, rfl⟩
    · have hd : decide (0 ≤ p ∧ p < 3) = false := decide_eq_false (by omega)
      rw [hd, Bool.false_and]
      have hf : decide (p < 3) = false := decide_eq_false h1
      clear hd hS
      go_enter Tryz.func58, Tryz.ntmps58
      go_wp2
      go_ret
      exact ⟨rfl, rfl⟩
  · have hd : decide (0 ≤ p ∧ p < 3) = false := decide_eq_false (by omega)
    rw [hd, Bool.false_and]
    have hf : decide (0 ≤ p) = false := decide_eq_false h0
    clear hd hS
    go_enter Tryz.func58, Tryz.ntmps58
    go_wp2
    go_ret
    exact ⟨rfl, rfl⟩
theorem rretire_out (b : Nat) (p : Int) (h : p < 0 ∨ 3 ≤ p) (w : World) :
    Calls Tryz.prog 57 #[.pointer (some ⟨b, 0, none⟩), .int .i64 p] w fun e w' => e = .returned (.int .i64 11) ∧ w = w' := by
  rcases h with h | h
  all_goals
    go_enter Tryz.func57, Tryz.ntmps57
    go_wp2
    go_ret
    exact ⟨rfl, rfl⟩
theorem rretire_none (b k : Nat) (hk : k < 3) (S : Sl) (w : World) (hS : w.heap[b]? = some (.cells (rslL S).toArray 33 (0, 0))) (hs : S.st k = 0) :
    Calls Tryz.prog 57 #[.pointer (some ⟨b, 0, none⟩), .int .i64 (k : Int)] w fun e w' => e = .returned (.int .i64 17) ∧ w = w' := by
  have hc : w.cell? ⟨b, 57 + k, none⟩ = some (.int .i64 0) := cell_blk hS (by rw [rslL_st S k hk, hs])
  have h2 : (k : Int) ≤ 2 := by omega
  clear hs
  go_enter Tryz.func57, Tryz.ntmps57
  go_wp2
  go_ret
  exact ⟨rfl, rfl⟩
theorem built_rcfg0 : Tryz.prog.built 29 [] = some (cfgL czero).toArray := by kernel_rfl
theorem rretire_ok (b k : Nat) (hk : k < 3) (S : Sl) (w : World) (hS : w.heap[b]? = some (.cells (rslL S).toArray 33 (0, 0))) (hs : S.st k ≠ 0) :
    Calls Tryz.prog 57 #[.pointer (some ⟨b, 0, none⟩), .int .i64 (k : Int)] w fun e w' => e = .returned (.int .i64 0) ∧ w'.heap[b]? = some (.cells (rslL (S.set k czero 0)).toArray 33 (0, 0)) ∧ But b w w' := by
  have hc : w.cell? ⟨b, 57 + k, none⟩ = some (.int .i64 (S.st k)) := cell_blk hS (rslL_st S k hk)
  have h2 : (k : Int) ≤ 2 := by omega
  have hb : (S.st k == 0) = false := by simpa using hs
  have hr := blk_row hS (splice (rslL S) (k * 19) (cfgL czero)).toArray
  have hc2 : (w.setRow b (splice (rslL S) (k * 19) (cfgL czero)).toArray).cell? ⟨b, 57 + k, none⟩ = some (.int .i64 (S.st k)) := by
    rw [rslL_setR S k hk] at hr ⊢
    exact cell_blk hr (rslL_st (S.setR k czero) k hk)
  have hf2 : (w.setRow b (splice (rslL S) (k * 19) (cfgL czero)).toArray).frozen? ⟨b, 57 + k, none⟩ = false := frozen_blk hr
  have Hr := Lib.hid hr
  clear hs hr
  go_enter Tryz.func57, Tryz.ntmps57
  go_wp2_with (first | ((with_reducible refine at_build 29 ?_); refine wpl_build (pv := []) rfl built_rcfg0 ?_) | ((with_reducible refine at_store 29 ?_); refine wpl_store (vs := cfgL czero) rfl rfl size_rcfg (cfgL_length _) hS (by simp [rslL_length, cfgL_length]; omega) (cfgL_one _) ?_))
  go_ret
  refine ⟨rfl, ?_, ((But.refl b w).setRow _).setCell _ _⟩
  have := blk_setCell (i := 57 + k) Hr.out (.int .i64 0)
  rw [rslL_setR S k hk, rslL_setS _ k hk, set_eq] at this
  rw [rslL_setR S k hk]
  exact this
end Go.Proofs.YtdeajkopmkdilaaGreat
