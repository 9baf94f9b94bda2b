/- crosswaylaw16.Of, crosswayref16.Right, crosswayref18.Slots. -/
import Derived.Test.YtdeajkopmkdilaaGreatSlot2
open Go Go.RowKit
namespace Go.Proofs.YtdeajkopmkdilaaGreat
set_option linter.unusedSimpArgs false
set_option maxRecDepth 100000
set_option maxHeartbeats 1000000
theorem size_rcfg : (Tryz.prog.info? 29).map (·.size) = some 19 := by kernel_rfl
theorem built_rcfg (c : Cfg) : Tryz.prog.built 29 [(0, .int .i64 c.mode), (1, .int .i64 c.sid), (2, .int .i64 c.nonce), (3, .agg (keyL c.key).toArray)] = some (cfgL c).toArray := by kernel_rfl
theorem of16_any (c : Cfg) (w : World) :
    Calls Tryz.prog 27 #[.agg (cfgL c).toArray] w fun e w' => e = .returned (.agg (cfgL c).toArray) ∧ Below w.heap.size w w' := by
  go_enter Tryz.func27, Tryz.ntmps27
  go_wp2_with (first | ((with_reducible refine at_load 27 ?_); refine wpl_load (vs := keyL c.key) rfl Tryz.underlying27 rfl size_key (keyL_length _) (blk_alloc (blk_new _ _) _) (fun j _ => cfgL_key c j) ?_) | ((with_reducible refine at_build 29 ?_); refine wpl_build rfl (built_rcfg c) ?_) | ((with_reducible refine at_store 29 ?_); refine wpl_store (vs := cfgL c) rfl rfl size_rcfg (cfgL_length _) (heap_alloc2_new _ _ _) (by simp [cfgL_length]) (cfgL_one _) ?_))
  refine bodyPost_ret (v := .agg (cfgL c).toArray) (results_agg rfl _ _ rfl Tryz.underlying29 rfl size_rcfg (cfgL_length _) (blk_row (heap_alloc2_new _ _ _) _) (fun j hj => ?_)) rfl ⟨rfl, below_setRow (((Below.refl _ _).alloc (Nat.le_refl _) _).alloc (by simp) _) (by omega) _⟩
  rw [Nat.zero_add, splice_full _ (cfgL c) (by rw [cfgL_length]; rfl)]
theorem rright_no (c : Cfg) (w : World) (h : ¬ (0 ≤ c.mode ∧ c.mode ≤ 2 ∧ 1 ≤ c.sid ∧ c.sid ≤ 15 ∧ 4 ≤ c.nonce ∧ c.nonce ≤ 18 ∧ c.sid + c.nonce ≤ 19)) :
    Calls Tryz.prog 98 #[.agg (cfgL c).toArray] w fun e w' => e = .returned (.bool c.right) ∧ Below w.heap.size w w' := by
  have hr : c.right = false := by unfold Cfg.right; rw [decide_eq_false h, Bool.false_and]
  have Hr := Lib.hid hr
  clear hr
  have hs : (c.mode < 0) ∨ (0 ≤ c.mode ∧ 2 < c.mode) ∨ (0 ≤ c.mode ∧ c.mode ≤ 2 ∧ c.sid < 1) ∨ (0 ≤ c.mode ∧ c.mode ≤ 2 ∧ 1 ≤ c.sid ∧ 15 < c.sid) ∨ (0 ≤ c.mode ∧ c.mode ≤ 2 ∧ 1 ≤ c.sid ∧ c.sid ≤ 15 ∧ c.nonce < 4)
    ∨ (0 ≤ c.mode ∧ c.mode ≤ 2 ∧ 1 ≤ c.sid ∧ c.sid ≤ 15 ∧ 4 ≤ c.nonce ∧ 18 < c.nonce) ∨ (0 ≤ c.mode ∧ c.mode ≤ 2 ∧ 1 ≤ c.sid ∧ c.sid ≤ 15 ∧ 4 ≤ c.nonce ∧ c.nonce ≤ 18 ∧ 19 < c.sid + c.nonce) := by omega
  clear h
  rcases hs with h1 | ⟨h1, h2⟩ | ⟨h1, h2, h3⟩ | ⟨h1, h2, h3, h4⟩ | ⟨h1, h2, h3, h4, h5⟩ | ⟨h1, h2, h3, h4, h5, h6⟩ | ⟨h1, h2, h3, h4, h5, h6, h7⟩
  all_goals
    go_enter Tryz.func98, Tryz.ntmps98
    go_wp2
    go_ret
    exact ⟨ret_bool Hr.out.symm, (Below.refl _ _).alloc (Nat.le_refl _) _⟩
theorem rright_1 (c : Cfg) (w : World) (h11 : 0 ≤ c.mode) (h12 : c.mode ≤ 2) (h21 : 1 ≤ c.sid) (h22 : c.sid ≤ 15) (h31 : 4 ≤ c.nonce) (h32 : c.nonce ≤ 18) (h4 : c.sid + c.nonce ≤ 19) (m0 : c.mode = 1) :
    Calls Tryz.prog 98 #[.agg (cfgL c).toArray] w fun e w' => e = .returned (.bool c.right) ∧ Below w.heap.size w w' := by
  have hr : c.right = !(c.sid + c.nonce != 16) := by
    unfold Cfg.right
    rw [decide_eq_true (by omega), if_neg (by omega), if_pos m0, Bool.true_and, bne, Bool.not_not]; rfl
  have hm1 : (c.mode == 1) = true := by simp [m0]
  have hm0 : (c.mode != 0) = true := by simp [m0]
  clear m0
  by_cases hn : c.sid + c.nonce = 16
  · have hnn : (c.sid + c.nonce != 16) = false := by rw [hn]; rfl
    rw [hnn] at hr
    have Hr := Lib.hid hr
    clear hr hn
    go_enter Tryz.func98, Tryz.ntmps98
    go_wp2
    go_ret
    exact ⟨ret_bool Hr.out.symm, (Below.refl _ _).alloc (Nat.le_refl _) _⟩
  · have hnn : (c.sid + c.nonce != 16) = true := by rw [bne_iff_ne]; exact hn
    rw [hnn] at hr
    have Hr := Lib.hid hr
    clear hr hn
    go_enter Tryz.func98, Tryz.ntmps98
    go_wp2
    go_ret
    exact ⟨ret_bool Hr.out.symm, (Below.refl _ _).alloc (Nat.le_refl _) _⟩
theorem rright_2 (c : Cfg) (w : World) (h11 : 0 ≤ c.mode) (h12 : c.mode ≤ 2) (h21 : 1 ≤ c.sid) (h22 : c.sid ≤ 15) (h31 : 4 ≤ c.nonce) (h32 : c.nonce ≤ 18) (h4 : c.sid + c.nonce ≤ 19) (m0 : c.mode = 2) :
    Calls Tryz.prog 98 #[.agg (cfgL c).toArray] w fun e w' => e = .returned (.bool c.right) ∧ Below w.heap.size w w' := by
  have hr : c.right = true := by
    unfold Cfg.right
    rw [decide_eq_true (by omega), if_neg (by omega), if_neg (by omega)]; rfl
  have hm1 : (c.mode == 1) = false := by simp [m0]
  have hm0 : (c.mode != 0) = true := by simp [m0]
  have Hr := Lib.hid hr
  clear m0 hr
  go_enter Tryz.func98, Tryz.ntmps98
  go_wp2
  go_ret
  exact ⟨ret_bool Hr.out.symm, (Below.refl _ _).alloc (Nat.le_refl _) _⟩
theorem rright_0 (c : Cfg) (w : World) (h11 : 0 ≤ c.mode) (h12 : c.mode ≤ 2) (h21 : 1 ≤ c.sid) (h22 : c.sid ≤ 15) (h31 : 4 ≤ c.nonce) (h32 : c.nonce ≤ 18) (h4 : c.sid + c.nonce ≤ 19) (m0 : c.mode = 0) :
    Calls Tryz.prog 98 #[.agg (cfgL c).toArray] w fun e w' => e = .returned (.bool c.right) ∧ Below w.heap.size w w' := by
  have hr : c.right = keyZero c.key := by
    unfold Cfg.right
    rw [decide_eq_true (by omega), if_pos m0]; rfl
  have hm1 : (c.mode == 1) = false := by simp [m0]
  have hm0 : (c.mode != 0) = false := by simp [m0]
  have Hr := Lib.hid hr
  have he := key_eq c.key
  clear m0 hr
  go_enter Tryz.func98, Tryz.ntmps98
  go_wp2_with ((with_reducible refine at_loadG 27 ?_); refine wpl_loadG (vs := keyL c.key) rfl rfl rfl Tryz.underlying27 rfl size_key (keyL_length _) (blk_new _ _) (fun j _ => cfgL_key c j) ?_)
  go_ret
  exact ⟨ret_bool Hr.out.symm, (Below.refl _ _).alloc (Nat.le_refl _) _⟩
theorem rright_any (c : Cfg) (w : World) :
    Calls Tryz.prog 98 #[.agg (cfgL c).toArray] w fun e w' => e = .returned (.bool c.right) ∧ Below w.heap.size w w' := by
  by_cases h : 0 ≤ c.mode ∧ c.mode ≤ 2 ∧ 1 ≤ c.sid ∧ c.sid ≤ 15 ∧ 4 ≤ c.nonce ∧ c.nonce ≤ 18 ∧ c.sid + c.nonce ≤ 19
  · obtain ⟨h1, h2, h3, h4, h5, h6, h7⟩ := h
    rcases (show c.mode = 0 ∨ c.mode = 1 ∨ c.mode = 2 by omega) with m | m | m
    · exact rright_0 c w h1 h2 h3 h4 h5 h6 h7 m
    · exact rright_1 c w h1 h2 h3 h4 h5 h6 h7 m
    · exact rright_2 c w h1 h2 h3 h4 h5 h6 h7 m
  · exact rright_no c w h
end Go.Proofs.YtdeajkopmkdilaaGreat
