/- Installing and retiring, whatever the point and the configuration: both forms. -/
import Derived.Test.YtdeajkopmkdilaaGreatShort
import Derived.Test.YtdeajkopmkdilaaGreatRef18c
open Go Go.RowKit
namespace Go.Proofs.YtdeajkopmkdilaaGreat
theorem But.toBelow {g n : Nat} {w w' : World} (h : But g w w') (hn : n ≤ g) (hs : n ≤ w.heap.size) : Below n w w' :=
  ⟨h.os, h.tape, h.output, h.size, fun k hk => h.block k (by omega) (by omega)⟩
def Sl.retErr (S : Sl) (p : Int) : Int := if p < 0 ∨ 3 ≤ p then 11 else if S.st p.toNat = 0 then 17 else 0
def Sl.ret (S : Sl) (p : Int) : Sl := if S.retErr p = 0 then S.set p.toNat czero 0 else S
structure SlOk (S : Sl) (m : Int) : Prop where
  lo : 0 ≤ S.n
  hi : S.n ≤ m
  st0 : ∀ k, 0 ≤ S.st k
  emp : ∀ k, S.st k = 0 → cfgEq (S.r k) czero = true
theorem SlOk.zero : SlOk ⟨fun _ => czero, fun _ => 0, 0⟩ 0 := ⟨Int.le_refl _, Int.le_refl _, fun _ => Int.le_refl _, fun _ _ => by simp [cfgEq]⟩
theorem SlOk.inst {S : Sl} {m : Int} (h : SlOk S m) (p : Int) (c : Cfg) : SlOk (S.inst p c) (m + 1) := by
  have := h.lo; have := h.hi
  unfold Sl.inst
  split
  · refine ⟨by simp [Sl.set, Sl.setN]; omega, by simp [Sl.set, Sl.setN]; omega, fun k => ?_, fun k hk => ?_⟩
    · have := h.st0 k
      simp only [Sl.set, Sl.setN]; split <;> omega
    · simp only [Sl.set, Sl.setN] at hk ⊢
      split at hk
      · omega
      · rename_i hne; rw [if_neg hne]; exact h.emp k hk
  · exact ⟨h.lo, by omega, h.st0, h.emp⟩
theorem SlOk.ret {S : Sl} {m : Int} (h : SlOk S m) (p : Int) : SlOk (S.ret p) (m + 1) := by
  have := h.lo; have := h.hi
  unfold Sl.ret
  split
  · refine ⟨by simp [Sl.set]; omega, by simp [Sl.set]; omega, fun k => ?_, fun k hk => ?_⟩
    · have := h.st0 k
      simp only [Sl.set]; split <;> omega
    · simp only [Sl.set] at hk ⊢
      split at hk
      · rename_i he; rw [if_pos he]; simp [cfgEq]
      · rename_i hne; rw [if_neg hne]; exact h.emp k hk
  · exact ⟨h.lo, by omega, h.st0, h.emp⟩
theorem install_all (b : Nat) (p : Int) (S : Sl) (c : Cfg) (w : World) (hS : w.heap[b]? = some (.cells (slL S).toArray 116 (0, 0))) (hn0 : 0 ≤ S.n) (hn1 : S.n ≤ 1000000) :
    Calls Tryz.prog 50 #[.pointer (some ⟨b, 0, none⟩), .int .i64 p, .agg (cfgL c).toArray] w fun e w' => e = .returned (.int .i64 (S.instErr p c)) ∧ w'.heap[b]? = some (.cells (slL (S.inst p c)).toArray 116 (0, 0)) ∧ But b w w' := by
  by_cases hp : p < 0 ∨ 3 ≤ p
  · have he : S.instErr p c = 11 := if_pos hp
    have hi : S.inst p c = S := if_neg (by omega)
    rw [he, hi]
    refine (install_out b p hp c w).mono ?_
    rintro e w' ⟨rfl, hb⟩
    exact ⟨rfl, blk_belowA hb hS, But.of_below hb⟩
  · obtain ⟨k, rfl⟩ : ∃ k : Nat, p = (k : Int) := ⟨p.toNat, by omega⟩
    have hk : k < 3 := by omega
    cases hr : c.right with
    | false =>
      have he : S.instErr k c = 10 := by unfold Sl.instErr; rw [if_neg hp, hr]; rfl
      have hi : S.inst k c = S := if_neg (by omega)
      rw [he, hi]
      refine (install_form b k hk c w hr).mono ?_
      rintro e w' ⟨rfl, hb⟩
      exact ⟨rfl, blk_belowA hb hS, But.of_below hb⟩
    | true =>
      by_cases hs : S.st k = 0
      · have he : S.instErr k c = 0 := by unfold Sl.instErr; rw [if_neg hp, hr, if_pos rfl]; exact if_pos hs
        have hi : S.inst k c = (S.setN (S.n + 1)).set k c (S.n + 1) := if_pos he
        rw [he, hi]
        exact install_ok b k hk S c w hr hS hs hn0 hn1
      · have he : S.instErr k c = 16 := by unfold Sl.instErr; rw [if_neg hp, hr, if_pos rfl]; exact if_neg hs
        have hi : S.inst k c = S := if_neg (by omega)
        rw [he, hi]
        refine (install_there b k hk S c w hr hS hs).mono ?_
        rintro e w' ⟨rfl, hb⟩
        exact ⟨rfl, blk_belowA hb hS, But.of_below hb⟩
theorem rinstall_all (b : Nat) (p : Int) (S : Sl) (c : Cfg) (w : World) (hS : w.heap[b]? = some (.cells (rslL S).toArray 33 (0, 0))) (hn0 : 0 ≤ S.n) (hn1 : S.n ≤ 1000000) (h0 : ∀ k, 0 ≤ S.st k) :
    Calls Tryz.prog 56 #[.pointer (some ⟨b, 0, none⟩), .int .i64 p, .agg (cfgL c).toArray] w fun e w' => e = .returned (.int .i64 (S.instErr p c)) ∧ w'.heap[b]? = some (.cells (rslL (S.inst p c)).toArray 33 (0, 0)) ∧ But b w w' := by
  by_cases hp : p < 0 ∨ 3 ≤ p
  · have he : S.instErr p c = 11 := if_pos hp
    have hi : S.inst p c = S := if_neg (by omega)
    rw [he, hi]
    refine (rinstall_out b p hp c w).mono ?_
    rintro e w' ⟨rfl, hb⟩
    exact ⟨rfl, blk_belowA hb hS, But.of_below hb⟩
  · obtain ⟨k, rfl⟩ : ∃ k : Nat, p = (k : Int) := ⟨p.toNat, by omega⟩
    have hk : k < 3 := by omega
    cases hr : c.right with
    | false =>
      have he : S.instErr k c = 10 := by unfold Sl.instErr; rw [if_neg hp, hr]; rfl
      have hi : S.inst k c = S := if_neg (by omega)
      rw [he, hi]
      refine (rinstall_form b k hk c w hr).mono ?_
      rintro e w' ⟨rfl, hb⟩
      exact ⟨rfl, blk_belowA hb hS, But.of_below hb⟩
    | true =>
      by_cases hs : S.st k = 0
      · have he : S.instErr k c = 0 := by unfold Sl.instErr; rw [if_neg hp, hr, if_pos rfl]; exact if_pos hs
        have hi : S.inst k c = (S.setN (S.n + 1)).set k c (S.n + 1) := if_pos he
        rw [he, hi]
        exact rinstall_ok b k hk S c w hr hS hs hn0 hn1
      · have he : S.instErr k c = 16 := by unfold Sl.instErr; rw [if_neg hp, hr, if_pos rfl]; exact if_neg hs
        have hi : S.inst k c = S := if_neg (by omega)
        rw [he, hi]
        refine (rinstall_there b k hk S c w hr hS (by have := h0 k; omega)).mono ?_
        rintro e w' ⟨rfl, hb⟩
        exact ⟨rfl, blk_belowA hb hS, But.of_below hb⟩
theorem retire_all (b : Nat) (p : Int) (S : Sl) (w : World) (hS : w.heap[b]? = some (.cells (slL S).toArray 116 (0, 0))) (h0 : ∀ k, S.st k = 0 → cfgEq (S.r k) czero = true) :
    Calls Tryz.prog 55 #[.pointer (some ⟨b, 0, none⟩), .int .i64 p] w fun e w' => e = .returned (.int .i64 (S.retErr p)) ∧ w'.heap[b]? = some (.cells (slL (S.ret p)).toArray 116 (0, 0)) ∧ But b w w' := by
  by_cases hp : p < 0 ∨ 3 ≤ p
  · have he : S.retErr p = 11 := if_pos hp
    have hi : S.ret p = S := if_neg (by omega)
    rw [he, hi]
    refine (retire_out b p hp w).mono ?_
    rintro e w' ⟨rfl, rfl⟩
    exact ⟨rfl, hS, But.refl _ _⟩
  · obtain ⟨k, rfl⟩ : ∃ k : Nat, p = (k : Int) := ⟨p.toNat, by omega⟩
    have hk : k < 3 := by omega
    by_cases hs : S.st k = 0
    · have he : S.retErr k = 17 := by unfold Sl.retErr; rw [if_neg hp]; exact if_pos hs
      have hi : S.ret k = S := if_neg (by omega)
      rw [he, hi]
      refine (retire_none b k hk S w hS (by unfold slotEq; rw [h0 k hs, hs]; rfl)).mono ?_
      rintro e w' ⟨rfl, rfl⟩
      exact ⟨rfl, hS, But.refl _ _⟩
    · have he : S.retErr k = 0 := by unfold Sl.retErr; rw [if_neg hp]; exact if_neg hs
      have hi : S.ret k = S.set k czero 0 := if_pos he
      rw [he, hi]
      exact retire_ok b k hk S w hS (by unfold slotEq; simp [hs])
theorem rretire_all (b : Nat) (p : Int) (S : Sl) (w : World) (hS : w.heap[b]? = some (.cells (rslL S).toArray 33 (0, 0))) :
    Calls Tryz.prog 57 #[.pointer (some ⟨b, 0, none⟩), .int .i64 p] w fun e w' => e = .returned (.int .i64 (S.retErr p)) ∧ w'.heap[b]? = some (.cells (rslL (S.ret p)).toArray 33 (0, 0)) ∧ But b w w' := by
  by_cases hp : p < 0 ∨ 3 ≤ p
  · have he : S.retErr p = 11 := if_pos hp
    have hi : S.ret p = S := if_neg (by omega)
    rw [he, hi]
    refine (rretire_out b p hp w).mono ?_
    rintro e w' ⟨rfl, rfl⟩
    exact ⟨rfl, hS, But.refl _ _⟩
  · obtain ⟨k, rfl⟩ : ∃ k : Nat, p = (k : Int) := ⟨p.toNat, by omega⟩
    have hk : k < 3 := by omega
    by_cases hs : S.st k = 0
    · have he : S.retErr k = 17 := by unfold Sl.retErr; rw [if_neg hp]; exact if_pos hs
      have hi : S.ret k = S := if_neg (by omega)
      rw [he, hi]
      refine (rretire_none b k hk S w hS hs).mono ?_
      rintro e w' ⟨rfl, rfl⟩
      exact ⟨rfl, hS, But.refl _ _⟩
    · have he : S.retErr k = 0 := by unfold Sl.retErr; rw [if_neg hp]; exact if_neg hs
      have hi : S.ret k = S.set k czero 0 := if_pos he
      rw [he, hi]
      exact rretire_ok b k hk S w hS hs
end Go.Proofs.YtdeajkopmkdilaaGreat
