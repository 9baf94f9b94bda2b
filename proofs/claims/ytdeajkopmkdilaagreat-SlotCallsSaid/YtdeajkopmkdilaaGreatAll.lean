/- slot.Slots.All: the iterator. -/
import Derived.Test.YtdeajkopmkdilaaGreatSlot2
import Derived.Test.YtdeajkopmkdilaaGreatMemIn
import Derived.RangeFuncNested
import Derived.RangeFuncBound
import Derived.RangeFuncCalls
import Derived.RangeFuncLeaves
import Derived.Shelf.Abstract
import Derived.Shelf.RegionOpen
import Derived.OwnWalkIn
import Derived.TacticsInMore
import Derived.LoopNIn
import Derived.LoopIn
open Go Go.RowKit Go.Shelf
namespace Go.Proofs.YtdeajkopmkdilaaGreat
set_option linter.unusedSimpArgs false
set_option maxRecDepth 100000
set_option maxHeartbeats 1000000
attribute [local go_sem] Oper.semAt_some
theorem all_any (b : Nat) (w : World) :
    Calls Tryz.prog 54 #[.pointer (some ⟨b, 0, none⟩)] w fun e w' => e = .returned (.func (.func 97) #[] #[.pointer (some ⟨w.heap.size, 0, none⟩)]) ∧ w' = w.alloc (.cells #[.pointer (some ⟨b, 0, none⟩)] 24) := by
  have hmf : ∀ (fn : Fn) (first cap : Array Value) (w : World), (Instr.makeFunc fn first cap).run Tryz.prog w = .ok (.func fn first cap) w := fun _ _ _ _ => rfl
  go_enter Tryz.func54, Tryz.ntmps54
  go_wp2
  go_ret
  exact ⟨rfl, rfl⟩
/-- The three rows. -/
def sl3 (S : Sl) : List Value := rowL (S.r 0) (S.st 0) ++ (rowL (S.r 1) (S.st 1) ++ rowL (S.r 2) (S.st 2))
theorem sl3_take (S : Sl) : (slL S).take 60 = sl3 S := rfl
theorem sl3_at (S : Sl) (k : Nat) (hk : k < 3) : ((sl3 S).drop (k * 20)).take 20 = rowL (S.r k) (S.st k) := by
  rcases (show k = 0 ∨ k = 1 ∨ k = 2 by omega) with rfl | rfl | rfl <;> rfl
theorem size_arr3 : (Tryz.prog.info? 114).map (·.size) = some 60 := by kernel_rfl
theorem exec_load_arr3 (ev : Operand → Value) (dst : Option Tmp) (x : Operand) (tt : TypeId) (ps : String) (af : Array Edge) (gd : Option (Nat × Bool)) (w : World) (h : (partAt w (ev x) 60).isSome = true) :
    (execOp ev { dst := dst, op := .load 114 x, type := tt, pos := ps, after := af, guard := gd }).run Tryz.prog w = .ok (.value (.agg ((partAt w (ev x) 60).getD []).toArray)) w :=
  exec_load Tryz.underlying114 rfl size_arr3 ev dst x tt ps af gd w h
theorem exec_index_slot (ev : Operand → Value) (dst : Option Tmp) (x y : Operand) (tt : TypeId) (ps : String) (af : Array Edge) (gd : Option (Nat × Bool)) (w : World) (h : (aggAt (ev x) (ev y) 3 20).isSome = true) :
    (execOp ev { dst := dst, op := .index 114 x y, type := tt, pos := ps, after := af, guard := gd }).run Tryz.prog w = .ok (.value (.agg ((aggAt (ev x) (ev y) 3 20).getD []).toArray)) w :=
  exec_index Tryz.underlying114 Tryz.underlying113 rfl size_slot ev dst x y tt ps af gd w h
theorem exec_store_slot (ev : Operand → Value) (dst : Option Tmp) (x y : Operand) (tt : TypeId) (ps : String) (af : Array Edge) (gd : Option (Nat × Bool)) (w : World) (h : canPut w (ev x) (ev y) 20 = true) :
    (execOp ev { dst := dst, op := .store 113 x y, type := tt, pos := ps, after := af, guard := gd }).run Tryz.prog w = .ok .skip (putAt w (ev x) (ev y)) :=
  exec_store size_slot ev dst x y tt ps af gd w h
theorem rowL_g19 (c : Cfg) (s : Int) (h : 19 < (rowL c s).length) : (rowL c s)[19]'h = .int .i64 s := rfl
attribute [local go_sem] rowL_g19 rowL_length
/-- The slots that aren't empty, of the first k. -/
def act (S : Sl) (k : Nat) : List Nat := (List.range k).filter fun i => S.st i != 0
theorem act_succ (S : Sl) (k : Nat) : act S (k + 1) = act S k ++ (if S.st k != 0 then [k] else []) := by
  unfold act; rw [List.range_succ, List.filter_append]; simp [List.filter_cons]
theorem act_len (S : Sl) (k : Nat) : (act S k).length ≤ k := by unfold act; exact Nat.le_trans (List.length_filter_le _ _) (by simp)
def encS (S : Sl) (k : Nat) : Array Value := #[.int .i64 (k : Int), .agg (cfgL (S.r k)).toArray]
theorem all1_in (F : Fence) (n : Nat) (hF : F.fn 97) (hro : F.round = none) (hn : 1 ≤ n) (l Bs b : Nat) (S : Sl) (J Jx : List Nat → World → Prop) (n₀ : Nat) (W : World)
    (hab : AbidesFrom W.heap.size J) (hn0 : n₀ ≤ W.heap.size)
    (hY : ∀ pre x W1, J pre W1 → pre.length < 3 → YieldAt F (n - 1) Tryz.prog l (encS S x) W1 fun e W' =>
      (e = .returned (.bool true) ∧ J (pre ++ [x]) W' ∧ Below n₀ W1 W') ∨ (e = .returned (.bool false) ∧ Jx (pre ++ [x]) W'))
    (hBs : W.cell? ⟨Bs, 0, none⟩ = some (.pointer (some ⟨b, 0, none⟩))) (hS : W.heap[b]? = some (.cells (slL S).toArray 116 (0, 0))) (h0 : J [] W) :
    CallsIn F n Tryz.prog 97 #[.func (.yield l) #[] #[], .pointer (some ⟨Bs, 0, none⟩)] W fun e W' => (∃ v, e = .returned v) ∧
      ((∃ ys, ys = act S 3 ∧ J ys W') ∨ (∃ pre, (∃ k, k ≤ 3 ∧ pre = act S k) ∧ Jx pre W')) := by
  have hp : partAt W (.pointer (some ⟨b, 0, none⟩)) 60 = some (sl3 S) := partAt_blk hS (by rw [slL_length]; decide) (sl3_take S)
  refine callsIn_of_wp Tryz.func97 rfl hF ?_ hro
  simp only [Tryz.ntmps97, List.size_toArray, List.length_cons, List.length_nil, Nat.reduceAdd, Nat.reduceSub, Array.replicate_succ, Array.replicate_zero, List.push_toArray, List.append_toArray, List.nil_append, List.cons_append]
  gi_wp2_with ((with_reducible refine atIn_load 114 ?_); refine wplIn_load rfl Tryz.underlying114 rfl size_arr3 hp ?_)
  gi_loopw [9] (fun i wr => ∃ k : Nat, k ≤ 3 ∧ i = .int .i64 k ∧ J (act S k) wr) (fun i _ => 3 - (intOf i).toNat)
  case atStart => exact ⟨0, Nat.zero_le _, rfl, h0⟩
  case round =>
    obtain ⟨k, hk, rfl, hJs⟩ := hrel
    by_cases hlt : k < 3
    · have hlt' : (k : Int) < 3 := by omega
      have hix : aggAt (.agg (sl3 S).toArray) (.int .i64 (k : Int)) 3 20 = some (rowL (S.r k) (S.st k)) := by
        unfold aggAt; simp only; rw [if_pos ⟨by omega, by omega⟩]; simp only [Int.toNat_natCast]; rw [sl3_at S k hlt]
      have hcan := canPut_new wr [.int .i64 0, .int .i64 0, .int .i64 0, .int .u8 0, .int .u8 0, .int .u8 0, .int .u8 0, .int .u8 0, .int .u8 0, .int .u8 0, .int .u8 0, .int .u8 0, .int .u8 0, .int .u8 0, .int .u8 0, .int .u8 0, .int .u8 0, .int .u8 0, .int .u8 0, .int .i64 0] (rowL (S.r k) (S.st k)) 113 (rowL_length _ _) (by decide) (rowL_one _ _)
      have hput := putAt_new wr [.int .i64 0, .int .i64 0, .int .i64 0, .int .u8 0, .int .u8 0, .int .u8 0, .int .u8 0, .int .u8 0, .int .u8 0, .int .u8 0, .int .u8 0, .int .u8 0, .int .u8 0, .int .u8 0, .int .u8 0, .int .u8 0, .int .u8 0, .int .u8 0, .int .u8 0, .int .i64 0] (rowL (S.r k) (S.st k)) 113 rfl
      have hpc : partAt (wr.alloc (.cells (rowL (S.r k) (S.st k)).toArray 113)) (.pointer (some ⟨wr.heap.size, 0, none⟩)) 19 = some (cfgL (S.r k)) := partAt_blk (blk_new _ _) (by rw [rowL_length]; decide) rfl
      have hsucc := act_succ S k
      have hlen := act_len S k
      have Hsucc := Lib.hid hsucc
      have Hix := Lib.hid hix
      have Hcan := Lib.hid hcan
      have Hput := Lib.hid hput
      have Hpc := Lib.hid hpc
      clear hsucc hix hcan hput hpc
      have hJ' : J (act S k) (wr.alloc (.cells (rowL (S.r k) (S.st k)).toArray 113)) := hab _ _ _ none hJs (World.grownBy_alloc wr _ none) (fun r e => by cases e)
      by_cases hs : S.st k = 0
      · have hs' : (S.st k != 0) = false := by rw [hs]; rfl
        clear hs
        gi_wp2_with (first | ((with_reducible refine atIn_index 114 ?_); refine wplIn_index rfl Tryz.underlying114 Tryz.underlying113 rfl size_slot Hix.out ?_) | ((with_reducible refine atIn_store 113 ?_); refine wplIn_store rfl size_slot Hcan.out Hput.out ?_))
        refine ⟨fun _ h => (by cases h), ?_⟩
        gi_wp2
        go_roundw
        case rel => exact ⟨k + 1, by omega, by go_num, by rw [Hsucc.out, hs']; simpa using hJ'⟩
        case measure => simp [intOf]; omega
      · have hs' : (S.st k != 0) = true := by simpa using hs
        obtain ⟨fn, tmps, assign, body, hy, hR⟩ := hY (act S k) k _ hJ' (by omega)
        dsimp only [encS] at hy
        clear hs
        gi_wp2_with (first | ((with_reducible refine atIn_index 114 ?_); refine wplIn_index rfl Tryz.underlying114 Tryz.underlying113 rfl size_slot Hix.out ?_) | ((with_reducible refine atIn_store 113 ?_); refine wplIn_store rfl size_slot Hcan.out Hput.out ?_) | ((with_reducible refine atIn_load 35 ?_); refine wplIn_load (wanted_at rfl rfl rfl) Tryz.underlying35 rfl size_cfg Hpc.out ?_))
        refine hR.mono ?_
        rintro e W3 (⟨rfl, hJ3, hk3⟩ | ⟨rfl, hJx3⟩)
        · gi_wp2
          go_roundw
          case rel => exact ⟨k + 1, by omega, by go_num, by rw [Hsucc.out, hs']; simpa using hJ3⟩
          case measure => simp [intOf]; omega
        · gi_wp2
          refine bodyPost_ret (results_none rfl _ _ _) rfl ?_
          exact ⟨⟨_, rfl⟩, .inr ⟨_, ⟨k + 1, by omega, by rw [Hsucc.out, hs', if_pos rfl]⟩, by simpa using hJx3⟩⟩
    · gi_wp2
      obtain rfl : k = 3 := by omega
      go_end0
      exact ⟨⟨_, rfl⟩, .inl ⟨_, rfl, hJs⟩⟩
theorem all_stops (F : Fence) (n : Nat) (hF : F.fn 97) (hro : F.round = none) (hn : 1 ≤ n) (Bs b n₀ : Nat) (S : Sl) (w : World) (hn₀ : n₀ ≤ w.heap.size)
    (hBs : w.cell? ⟨Bs, 0, none⟩ = some (.pointer (some ⟨b, 0, none⟩))) (hS : w.heap[b]? = some (.cells (slL S).toArray 116 (0, 0))) :
    SeqStopsK F n Tryz.prog 97 #[.pointer (some ⟨Bs, 0, none⟩)] (encS S) (Below n₀) (fun ys => ys = act S 3) (fun pre => ∃ k, k ≤ 3 ∧ pre = act S k) 3 w := fun l J Jx W hW hab _ hY h0 =>
  all1_in F n hF hro hn l Bs b S J Jx n₀ W hab (Nat.le_trans hn₀ hW.size) hY ((hW.cell (p := ⟨Bs, 0, none⟩) (cell_lt hBs)).trans hBs) (blk_belowA hW hS) h0
end Go.Proofs.YtdeajkopmkdilaaGreat
