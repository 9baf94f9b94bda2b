/- slot.Slots: Retire, Clone. -/
import Derived.Test.YtdeajkopmkdilaaGreatEqs
open Go Go.RowKit
namespace Go.Proofs.YtdeajkopmkdilaaGreat
set_option linter.unusedSimpArgs false
set_option maxRecDepth 100000
set_option maxHeartbeats 1000000
theorem built_slot0 : Tryz.prog.built 113 [] = some (rowL czero 0).toArray := by kernel_rfl
theorem slL_row (S : Sl) (k j : Nat) (hk : k < 3) (hj : j < (rowL (S.r k) (S.st k)).length) : (slL S)[k * 20 + j]? = (rowL (S.r k) (S.st k))[j]? := by
  rw [rowL_length] at hj
  exact slL_at S k j hk hj
theorem retire_out (b : Nat) (p : Int) (h : p < 0 ∨ 3 ≤ p) (w : World) :
    Calls Tryz.prog 55 #[.pointer (some ⟨b, 0, none⟩), .int .i64 p] w fun e w' => e = .returned (.int .i64 11) ∧ w = w' := by
  go_enter Tryz.func55, Tryz.ntmps55
  go_wp2_with (go_at_call 74; refine (at_out b p h _).mono ?_; rintro e w' ⟨rfl, rfl⟩)
  go_ret
  exact ⟨rfl, rfl⟩
theorem retire_none (b k : Nat) (hk : k < 3) (S : Sl) (w : World) (hS : w.heap[b]? = some (.cells (slL S).toArray 116 (0, 0))) (hs : slotEq (S.r k) czero (S.st k) 0 = true) :
    Calls Tryz.prog 55 #[.pointer (some ⟨b, 0, none⟩), .int .i64 (k : Int)] w fun e w' => e = .returned (.int .i64 17) ∧ w = w' := by
  have he := fun w => binop_slot_eql (S.r k) czero (S.st k) 0 w
  rw [hs] at he
  go_enter Tryz.func55, Tryz.ntmps55
  go_wp2_with (first | (go_at_call 74; refine (at_in b k hk _).mono ?_; rintro e w' ⟨rfl, rfl⟩) | ((with_reducible refine at_load 113 ?_); refine wpl_load (vs := rowL (S.r k) (S.st k)) rfl Tryz.underlying113 rfl size_slot (rowL_length _ _) hS (fun j hj => slL_row S k j hk hj) ?_) | ((with_reducible refine at_build 113 ?_); refine wpl_build (pv := []) rfl built_slot0 ?_))
  go_ret
  exact ⟨rfl, rfl⟩
theorem retire_ok (b k : Nat) (hk : k < 3) (S : Sl) (w : World) (hS : w.heap[b]? = some (.cells (slL S).toArray 116 (0, 0))) (hs : slotEq (S.r k) czero (S.st k) 0 = false) :
    Calls Tryz.prog 55 #[.pointer (some ⟨b, 0, none⟩), .int .i64 (k : Int)] w fun e w' => e = .returned (.int .i64 0) ∧ w'.heap[b]? = some (.cells (slL (S.set k czero 0)).toArray 116 (0, 0)) ∧ But b w w' := by
  have he := fun w => binop_slot_eql (S.r k) czero (S.st k) 0 w
  rw [hs] at he
  go_enter Tryz.func55, Tryz.ntmps55
  go_wp2_with (first | (go_at_call 74; refine (at_in b k hk _).mono ?_; rintro e w' ⟨rfl, rfl⟩) | ((with_reducible refine at_load 113 ?_); refine wpl_load (vs := rowL (S.r k) (S.st k)) rfl Tryz.underlying113 rfl size_slot (rowL_length _ _) hS (fun j hj => slL_row S k j hk hj) ?_) | ((with_reducible refine at_build 113 ?_); refine wpl_build (pv := []) rfl built_slot0 ?_) | ((with_reducible refine at_store 113 ?_); refine wpl_store (vs := rowL czero 0) rfl rfl size_slot (rowL_length _ _) hS (by simp [slL_length, rowL_length]; omega) (rowL_one _ _) ?_))
  go_ret
  rw [slL_set _ _ hk]
  exact ⟨rfl, blk_row hS _, (But.refl b w).setRow _⟩
theorem clone_any (b : Nat) (S : Sl) (w : World) (hS : w.heap[b]? = some (.cells (slL S).toArray 116 (0, 0))) :
    Calls Tryz.prog 15 #[.pointer (some ⟨b, 0, none⟩)] w fun e w' => ∃ g, e = .returned (.pointer (some ⟨g, 0, none⟩)) ∧ w.heap.size ≤ g ∧ w'.heap[g]? = some (.cells (slL S).toArray 116 (0, 0)) ∧ Below w.heap.size w w' := by
  go_enter Tryz.func15, Tryz.ntmps15
  go_wp2_with (first | ((with_reducible refine at_load 116 ?_); refine wpl_load (vs := slL S) rfl Tryz.underlying116 rfl size_slots (slL_length _) hS (fun j hj => by rw [Nat.zero_add]) ?_) | ((with_reducible refine at_store 116 ?_); refine wpl_store (vs := slL S) rfl rfl size_slots (slL_length _) (blk_new _ _) (by simp [slL_length]) rfl ?_))
  go_ret
  rw [splice_full _ (slL S) (by rw [slL_length]; rfl)]
  exact ⟨w.heap.size, rfl, Nat.le_refl _, blk_row (blk_new _ _) _, below_setRow ((Below.refl _ _).alloc (Nat.le_refl _) _) (Nat.le_refl _) _⟩
theorem new_any (w : World) : Calls Tryz.prog 12 #[] w fun e w' => e = .returned (.pointer (some ⟨w.heap.size, 0, none⟩)) ∧ w'.heap[w.heap.size]? = some (.cells (slL ⟨fun _ => czero, fun _ => 0, 0⟩).toArray 116 (0, 0)) ∧ Below w.heap.size w w' := by
  go_enter Tryz.func12, Tryz.ntmps12
  go_wp2
  go_ret
  exact ⟨rfl, blk_new _ _, (Below.refl _ _).alloc (Nat.le_refl _) _⟩
end Go.Proofs.YtdeajkopmkdilaaGreat
