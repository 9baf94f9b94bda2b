/- crosswaylaw18.Do: one call of a chain at both forms. -/
import Derived.Test.YtdeajkopmkdilaaGreatSum
open Go Go.RowKit
namespace Go.Proofs.YtdeajkopmkdilaaGreat
set_option linter.unusedSimpArgs false
set_option linter.unusedVariables false
set_option maxRecDepth 100000
set_option maxHeartbeats 1000000
attribute [local go_sem ↓] exec_load_cfg
def callL (a p : Int) (c : Cfg) : List Value := .int .i64 a :: .int .i64 p :: cfgL c
theorem do_install (b b2 : Nat) (hne : b ≠ b2) (p : Int) (c : Cfg) (S : Sl) (m : Int) (hok : SlOk S m) (hm : m ≤ 1000000) (w : World) (hS : w.heap[b]? = some (.cells (slL S).toArray 116 (0, 0))) (hR : w.heap[b2]? = some (.cells (rslL S).toArray 33 (0, 0))) :
    Calls Tryz.prog 13 #[.pointer (some ⟨b, 0, none⟩), .pointer (some ⟨b2, 0, none⟩), .agg (callL 0 p c).toArray] w fun e w' => e = .returned (.bool true) ∧ (∃ S', SlOk S' (m + 1) ∧ w'.heap[b]? = some (.cells (slL S').toArray 116 (0, 0)) ∧ w'.heap[b2]? = some (.cells (rslL S').toArray 33 (0, 0))) ∧ ∀ n, n ≤ b → n ≤ b2 → n ≤ w.heap.size → Below n w w' := by
  have hlt := blk_lt hS
  have hlt2 := blk_lt hR
  have hlo := hok.lo
  have hhi := hok.hi
  go_enter Tryz.func13, Tryz.ntmps13
  have hB := blk_new w (.cells (callL 0 p c).toArray 37)
  have hc0 : (w.alloc (.cells (callL 0 p c).toArray 37)).cell? ⟨w.heap.size, 0, none⟩ = some (.int .i64 0) := cell_blk hB rfl
  have hS1 := blk_alloc hS (.cells (callL 0 p c).toArray 37)
  have hR1 := blk_alloc hR (.cells (callL 0 p c).toArray 37)
  have hbW : Below w.heap.size w (w.alloc (.cells (callL 0 p c).toArray 37)) := (Below.refl _ _).alloc (Nat.le_refl _) _
  have hzW : (w.alloc (.cells (callL 0 p c).toArray 37)).heap.size = w.heap.size + 1 := World.size_alloc _ _
  have first0 : ((w.alloc (.cells (callL 0 p c).toArray 37)).cell? ⟨w.heap.size, 1, none⟩ = some (.int .i64 p) ∧ partAt (w.alloc (.cells (callL 0 p c).toArray 37)) (.pointer (some ⟨w.heap.size, 2, none⟩)) 19 = some (cfgL c)) := ⟨cell_blk hB rfl, partAt_blk hB (by simp [callL, cfgL_length]) rfl⟩
  go_wp2
  generalize w.alloc (.cells (callL 0 p c).toArray 37) = W at hB hc0 hS1 hR1 hbW hzW first0 ⊢
  have kp : ∀ (g : Nat) (W1 W2 : World), But g W1 W2 → g < w.heap.size → (W1.cell? ⟨w.heap.size, 1, none⟩ = some (.int .i64 p) ∧ partAt W1 (.pointer (some ⟨w.heap.size, 2, none⟩)) 19 = some (cfgL c)) → (W2.cell? ⟨w.heap.size, 1, none⟩ = some (.int .i64 p) ∧ partAt W2 (.pointer (some ⟨w.heap.size, 2, none⟩)) 19 = some (cfgL c)) := fun g W1 W2 hb hg ⟨a1, a2⟩ => by
    have e : W2.heap[w.heap.size]? = W1.heap[w.heap.size]? := hb.block _ (cell_lt a1) (by omega)
    exact ⟨(World.cell?_of_block (a := ⟨w.heap.size, 1, none⟩) e).trans a1, (partAt_same e).trans a2⟩
  have firstD := kp 0 _ _ (But.refl 0 W).drew (by omega) first0
  go_region_held3 (fun w' => w'.cell? ⟨w.heap.size, 1, none⟩ = some (.int .i64 p) ∧ partAt w' (.pointer (some ⟨w.heap.size, 2, none⟩)) 19 = some (cfgL c)) (first | exact firstD | assumption)
    (first | (go_at_call 50; refine (install_all b p S c _ (blk_drew hS1) hlo (by omega)).mono ?_; rintro e w2 ⟨rfl, hS2, hb2⟩; have first2 := kp b _ _ hb2 hlt firstD; have hR2 := hb2.blk hR1 hne.symm) | (go_at_call 27; refine (of16_any c _).mono ?_; rintro e w3 ⟨rfl, hb3⟩; have first3 := kp 0 _ _ (But.of_below hb3) (by omega) first2; have hR3 := blk_belowA hb3 hR2; have hS3 := blk_belowA hb3 hS2) | (go_at_call 56; refine (rinstall_all b2 p S c _ (by assumption) hlo (by omega) hok.st0).mono ?_; rintro e w4 ⟨rfl, hR4, hb4⟩; have first4 := kp b2 _ _ hb4 hlt2 (by assumption); have hS4 := hb4.blk hS3 hne))
  go_wp2
  go_ret
  have z2 := hb2.size
  have z3 := hb3.size
  have z4 := hb4.size
  have zd : W.drew.heap.size = W.heap.size := rfl
  refine ⟨rfl, ⟨_, hok.inst p c, hS4, hR4⟩, fun n n1 n2 n3 => ?_⟩
  exact (hbW.mono n3).trans (((But.refl b W).drew.toBelow n1 (by omega)).trans ((hb2.toBelow n1 (by omega)).trans ((hb3.mono (by omega)).trans (hb4.toBelow n2 (by omega)))))
theorem do_retire (b b2 : Nat) (hne : b ≠ b2) (p : Int) (c : Cfg) (S : Sl) (m : Int) (hok : SlOk S m) (hm : m ≤ 1000000) (w : World) (hS : w.heap[b]? = some (.cells (slL S).toArray 116 (0, 0))) (hR : w.heap[b2]? = some (.cells (rslL S).toArray 33 (0, 0))) :
    Calls Tryz.prog 13 #[.pointer (some ⟨b, 0, none⟩), .pointer (some ⟨b2, 0, none⟩), .agg (callL 1 p c).toArray] w fun e w' => e = .returned (.bool true) ∧ (∃ S', SlOk S' (m + 1) ∧ w'.heap[b]? = some (.cells (slL S').toArray 116 (0, 0)) ∧ w'.heap[b2]? = some (.cells (rslL S').toArray 33 (0, 0))) ∧ ∀ n, n ≤ b → n ≤ b2 → n ≤ w.heap.size → Below n w w' := by
  have hlt := blk_lt hS
  have hlt2 := blk_lt hR
  have hlo := hok.lo
  have hhi := hok.hi
  go_enter Tryz.func13, Tryz.ntmps13
  have hB := blk_new w (.cells (callL 1 p c).toArray 37)
  have hc0 : (w.alloc (.cells (callL 1 p c).toArray 37)).cell? ⟨w.heap.size, 0, none⟩ = some (.int .i64 1) := cell_blk hB rfl
  have hS1 := blk_alloc hS (.cells (callL 1 p c).toArray 37)
  have hR1 := blk_alloc hR (.cells (callL 1 p c).toArray 37)
  have hbW : Below w.heap.size w (w.alloc (.cells (callL 1 p c).toArray 37)) := (Below.refl _ _).alloc (Nat.le_refl _) _
  have hzW : (w.alloc (.cells (callL 1 p c).toArray 37)).heap.size = w.heap.size + 1 := World.size_alloc _ _
  have first0 : ((w.alloc (.cells (callL 1 p c).toArray 37)).cell? ⟨w.heap.size, 1, none⟩ = some (.int .i64 p) ∧ partAt (w.alloc (.cells (callL 1 p c).toArray 37)) (.pointer (some ⟨w.heap.size, 2, none⟩)) 19 = some (cfgL c)) := ⟨cell_blk hB rfl, partAt_blk hB (by simp [callL, cfgL_length]) rfl⟩
  go_wp2
  generalize w.alloc (.cells (callL 1 p c).toArray 37) = W at hB hc0 hS1 hR1 hbW hzW first0 ⊢
  have kp : ∀ (g : Nat) (W1 W2 : World), But g W1 W2 → g < w.heap.size → (W1.cell? ⟨w.heap.size, 1, none⟩ = some (.int .i64 p) ∧ partAt W1 (.pointer (some ⟨w.heap.size, 2, none⟩)) 19 = some (cfgL c)) → (W2.cell? ⟨w.heap.size, 1, none⟩ = some (.int .i64 p) ∧ partAt W2 (.pointer (some ⟨w.heap.size, 2, none⟩)) 19 = some (cfgL c)) := fun g W1 W2 hb hg ⟨a1, a2⟩ => by
    have e : W2.heap[w.heap.size]? = W1.heap[w.heap.size]? := hb.block _ (cell_lt a1) (by omega)
    exact ⟨(World.cell?_of_block (a := ⟨w.heap.size, 1, none⟩) e).trans a1, (partAt_same e).trans a2⟩
  have firstD := kp 0 _ _ (But.refl 0 W).drew (by omega) first0
  go_region_held3 (fun w' => w'.cell? ⟨w.heap.size, 1, none⟩ = some (.int .i64 p) ∧ partAt w' (.pointer (some ⟨w.heap.size, 2, none⟩)) 19 = some (cfgL c)) (first | exact firstD | assumption)
    (first | (go_at_call 55; refine (retire_all b p S _ (blk_drew hS1) hok.emp).mono ?_; rintro e w2 ⟨rfl, hS2, hb2⟩; have first2 := kp b _ _ hb2 hlt firstD; have hR2 := hb2.blk hR1 hne.symm) | (go_at_call 57; refine (rretire_all b2 p S _ (by assumption)).mono ?_; rintro e w4 ⟨rfl, hR4, hb4⟩; have first4 := kp b2 _ _ hb4 hlt2 (by assumption); have hS4 := hb4.blk hS2 hne))
  go_wp2
  go_ret
  have z2 := hb2.size
  have z4 := hb4.size
  have zd : W.drew.heap.size = W.heap.size := rfl
  refine ⟨rfl, ⟨_, hok.ret p, hS4, hR4⟩, fun n n1 n2 n3 => ?_⟩
  exact (hbW.mono n3).trans (((But.refl b W).drew.toBelow n1 (by omega)).trans ((hb2.toBelow n1 (by omega)).trans (hb4.toBelow n2 (by omega))))
theorem do_other (b b2 : Nat) (a p : Int) (h0 : a ≠ 0) (h1 : a ≠ 1) (c : Cfg) (w : World) :
    Calls Tryz.prog 13 #[.pointer (some ⟨b, 0, none⟩), .pointer (some ⟨b2, 0, none⟩), .agg (callL a p c).toArray] w fun e w' => e = .returned (.bool true) ∧ Below w.heap.size w w' := by
  have q0 : (a == 0) = false := by simpa using h0
  have q1 : (a == 1) = false := by simpa using h1
  go_enter Tryz.func13, Tryz.ntmps13
  have hc0 : (w.alloc (.cells (callL a p c).toArray 37)).cell? ⟨w.heap.size, 0, none⟩ = some (.int .i64 a) := cell_blk (blk_new _ _) rfl
  go_wp2
  go_ret
  exact ⟨rfl, (Below.refl _ _).alloc (Nat.le_refl _) _⟩
theorem do_any (b b2 : Nat) (hne : b ≠ b2) (a p : Int) (c : Cfg) (S : Sl) (m : Int) (hok : SlOk S m) (hm : m ≤ 1000000) (w : World) (hS : w.heap[b]? = some (.cells (slL S).toArray 116 (0, 0))) (hR : w.heap[b2]? = some (.cells (rslL S).toArray 33 (0, 0))) :
    Calls Tryz.prog 13 #[.pointer (some ⟨b, 0, none⟩), .pointer (some ⟨b2, 0, none⟩), .agg (callL a p c).toArray] w fun e w' => e = .returned (.bool true) ∧ (∃ S', SlOk S' (m + 1) ∧ w'.heap[b]? = some (.cells (slL S').toArray 116 (0, 0)) ∧ w'.heap[b2]? = some (.cells (rslL S').toArray 33 (0, 0))) ∧ ∀ n, n ≤ b → n ≤ b2 → n ≤ w.heap.size → Below n w w' := by
  by_cases h0 : a = 0
  · subst h0; exact do_install b b2 hne p c S m hok hm w hS hR
  · by_cases h1 : a = 1
    · subst h1; exact do_retire b b2 hne p c S m hok hm w hS hR
    · refine (do_other b b2 a p h0 h1 c w).mono ?_
      rintro e w' ⟨rfl, hb⟩
      have := hok.hi
      exact ⟨rfl, ⟨S, ⟨hok.lo, by omega, hok.st0, hok.emp⟩, blk_belowA hb hS, blk_belowA hb hR⟩, fun n _ _ n3 => hb.mono n3⟩
end Go.Proofs.YtdeajkopmkdilaaGreat
