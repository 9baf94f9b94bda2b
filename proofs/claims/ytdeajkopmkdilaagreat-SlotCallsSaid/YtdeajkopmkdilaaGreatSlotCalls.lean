/- crosswaylaw18.SlotCalls: it answers true, whatever the calls. -/
import Derived.Test.YtdeajkopmkdilaaGreatAlive18
open Go Go.RowKit Go.Shelf
namespace Go.Proofs.YtdeajkopmkdilaaGreat
set_option linter.unusedSimpArgs false
set_option linter.unusedVariables false
set_option maxRecDepth 100000
set_option maxHeartbeats 1000000
section
variable {P : Program}
/-- A part of a block, whatever else lies there, loaded whole. -/
theorem wpl_loadP {ops : Array Oper} {rest : List Oper} {dst : Option Tmp} {ty tt : TypeId} {x : Operand} {ps : String} {af : Array Edge} {a : Act} {w : World} {Q : Exit → Act → World → Prop}
    {d : TypeDesc} (hu : P.underlying ty = some d) (hd : aggD d = true) {m : Nat} (hi : (P.info? ty).map (·.size) = some m) {vs : List Value} (hp : partAt w (a.eval x) m = some vs)
    (h : wpList P ops Q rest (a.put dst (.agg vs.toArray)) w) :
    wpList P ops Q ({ dst := dst, op := .load ty x, type := tt, pos := ps, after := af, guard := none } :: rest) a w := by
  refine wpList_want rfl ?_
  unfold Oper.wp
  rw [exec_load hu hd hi a.eval dst x tt ps af none w (by rw [hp]; rfl), hp]
  exact h
end
/-- A slice of calls. -/
def CallsAt (w : World) (v : Value) (n : Nat) : Prop :=
  ∃ ao cap, v = .slice ao n cap ∧ ∀ i, i < n → ∃ b o, ao = some ⟨b, o, none⟩ ∧ ∃ a p c, partAt w (.pointer (some ⟨b, o + i * 21, none⟩)) 21 = some (callL a p c)
theorem size_call : (Tryz.prog.info? 37).map (·.size) = some 21 := by kernel_rfl
theorem built_rsl0 : Tryz.prog.built 33 [] = some (rslL s00).toArray := by kernel_rfl
theorem slotCalls_any (v : Value) (n : Nat) (w : World) (h : CallsAt w v n) :
    Calls Tryz.prog 3 #[v] w fun e w' => e = .returned (.bool true) ∧ Below w.heap.size w w' := by
  obtain ⟨ao, cap, rfl, hh⟩ := h
  have H := Lib.hid hh
  clear hh
  by_cases hn : n ≤ 100
  · have hn1 : (n : Int) ≤ 100 := by omega
    go_enter Tryz.func3, Tryz.ntmps3
    go_wp2_with (first
      | (go_at_call 11; refine (alive18 _).mono ?_; rintro e w0 ⟨rfl, hb0⟩)
      | (go_at_call 12; refine (new_any _).mono ?_; rintro e w1 ⟨rfl, hS, hb1⟩; have hz0 := hb0.size; have hz1 := hb1.size; have hlt := blk_lt hS; have hB1 := hb0.trans (hb1.mono hz0); replace hS := blk_alloc hS (.cells (rslL s00).toArray 33); have hR := blk_new w1 (.cells (rslL s00).toArray 33); replace hB1 := hB1.alloc (by omega) (.cells (rslL s00).toArray 33))
      | ((with_reducible refine at_build 33 ?_); refine wpl_build (pv := []) rfl built_rsl0 ?_))
    generalize w1.alloc (.cells (rslL s00).toArray 33) = w2 at hS hR hB1 ⊢
    generalize w0.heap.size = gs at *
    generalize w1.heap.size = gr at *
    have hne : gs ≠ gr := by omega
    go_loopw [5] (fun i wr => ∃ (k : Nat) (S : Sl), i = .int .i64 k ∧ k ≤ n ∧ SlOk S k ∧ wr.heap[gs]? = some (.cells (slL S).toArray 116 (0, 0)) ∧ wr.heap[gr]? = some (.cells (rslL S).toArray 33 (0, 0)) ∧ Below w.heap.size w wr) (fun i _ => n - (intOf i).toNat)
    case atStart => exact ⟨0, s00, rfl, Nat.zero_le _, SlOk.zero, hS, hR, hB1⟩
    case round =>
      clear hS hR hB1 hb0 hb1
      obtain ⟨k, S, rfl, hk, hok, hS, hR, hB⟩ := hrel
      by_cases hlt2 : k < n
      · obtain ⟨b, o, rfl, a, p, c, hp⟩ := H.out k hlt2
        have hp' := partAt_below hp hB
        have k0 : (0 : Int) ≤ k := by omega
        have k1 : (k : Int) < n := by omega
        have hzB := hB.size
        go_wp2_with (first
          | ((with_reducible refine at_load 37 ?_); refine wpl_loadP Tryz.underlying37 rfl size_call hp' ?_)
          | (go_at_call 13; refine (do_any gs gr hne a p c S k hok (by omega) _ hS hR).mono ?_; rintro e w3 ⟨rfl, ⟨S', hok', hS', hR'⟩, hf⟩; have hB3 := hB.trans (hf w.heap.size (by omega) (by omega) hzB); clear hS hR hf)
          | (go_at_call 14; refine (agree_any gs gr hne S' _ hok' _ hS' hR').mono ?_; rintro e w4 ⟨rfl, hb4⟩))
        go_roundw
        case rel => exact ⟨k + 1, S', by go_num, by omega, by simpa using hok', blk_belowA hb4 hS', blk_belowA hb4 hR', hB3.trans (hb4.mono hB3.size)⟩
        case measure => simp [intOf]; omega
      · go_wp2
        go_ret
        exact ⟨rfl, hB⟩
  · have hn1 : (100 : Int) < n := by omega
    go_enter Tryz.func3, Tryz.ntmps3
    go_wp2_with (go_at_call 11; refine (alive18 _).mono ?_; rintro e w0 ⟨rfl, hb0⟩)
    go_ret
    exact ⟨rfl, hb0⟩
end Go.Proofs.YtdeajkopmkdilaaGreat
