/- octet.Join: slices.Concat and slices.Grow at bytes. -/
import Derived.Test.YtdeajkopmkdilaaGreatBytes
open Go Go.RowKit
namespace Go.Proofs.YtdeajkopmkdilaaGreat
set_option linter.unusedSimpArgs false
section
variable {P : Program}
theorem run_append_zeros (w : World) (t tx ty e : TypeId) (i : TypeInfo) (z : Value) (k : IntKind) (ht : P.underlying t = some (.slice e)) (htx : P.underlying tx = some (.int k)) (hi : P.info? e = some i) (hz : i.zero = some z) (hs : i.size = 1) (hb : i.bytes = 1) 
    (n : Nat) (hn0 : 0 < n) (hn : n ≤ 1000000000) :
    (Builtin.append_ #[t, tx] ty #[.slice none 0 0, .int .i64 (n : Int)]).run P w =
      .ok (.slice (some ⟨w.heap.size, 0, none⟩) n (grownCap w n 0 e)) (w.drew.alloc (.cells (Builtin.zeroCells z.cells n ++ Builtin.zeroCells z.cells (grownCap w n 0 e - n)) e)) := by
  have h1 : IntKind.i64.wrap (n : Int) = n := by rw [IntKind.wrap_i64]; omega
  have h2 : ¬ ((n : Int) < 0) := by omega
  have h3 : ¬ (281474976710656 < (n : Int)) := by omega
  have h4 : ¬ (9223372036854775807 < (n : Int)) := by omega
  have h5 : ¬ n = 0 := by omega
  have h6 : Builtin.nextslicecap n 0 = n := by simp [Builtin.nextslicecap, hn0]
  have h7 : ¬ (281474976710656 < n) := by omega
  have h8 : ¬ ((n : Int) ≤ 0) := by omega
  have ha : ∀ w, (asIntOf (.int .i64 (n : Int))).run P w = .ok (.i64, (n : Int)) w := fun _ => by simp [asIntOf]
  simp [Builtin.append_, run_underlying ht, run_underlying htx, sizeOf, typeInfo, zeroValue, hi, hz, hs, hb, asInt, ha, h1, h2, h3, h4, h5, h6, h7, h8, Question.forced, newRow, grownCap, Builtin.firstCells]
theorem wpl_append_zeros {ops : Array Oper} {rest : List Oper} {dst : Option Tmp} {tt : TypeId} {s x : Operand} {t tx : TypeId} {ps : String} {af : Array Edge} {a : Act} {w : World} {Q : Exit → Act → World → Prop}
    {v u r : Value} {w' : World} (hs : a.eval s = v) (hx : a.eval x = u) (hr : (Builtin.append_ #[t, tx] tt #[v, u]).run P w = .ok r w')
    (h : wpList P ops Q rest (a.put dst r) w') :
    wpList P ops Q ({ dst := dst, op := .call { callee := .builtin .append, args := #[s, x], argTypes := #[t, tx] }, type := tt, pos := ps, after := af, guard := none } :: rest) a w := by
  refine wpList_want rfl ?_
  unfold Oper.wp execOp
  simp only [resolve, invoke, builtin, Sem.run_bind, Sem.run_pure, Result.andThen_ok, List.map_toArray, List.map_cons, List.map_nil, hs, hx, hr]
  exact h
end
set_option maxRecDepth 100000 in
set_option maxHeartbeats 1000000 in
theorem grow_nil (n : Nat) (hn : n ≤ 1000000000) (w : World) :
    Calls Tryz.prog 138 #[.slice none 0 0, .int .i64 (n : Int)] w fun e w' => ∃ r, e = .returned r ∧ w'.ownsRow w.heap.size 5 1 r 0 [] ∧ Below w.heap.size w w' := by
  by_cases h0 : n = 0
  · subst h0
    go_enter Tryz.func138, Tryz.ntmps138
    go_wp2
    go_ret
    exact ⟨_, rfl, World.ownsRow_nil _ _ _ _, Below.refl _ _⟩
  · have hp : (0 : Int) < n := by omega
    obtain ⟨i0, hi, hz0, hz1, hz2⟩ := info_parts infoU8
    have hap := run_append_zeros w 40 3 40 5 i0 (.int .u8 0) .i64 Tryz.underlying40 Tryz.underlying3 hi hz0 hz1 hz2 n (by omega) hn
    have hge := grownCap_ge w n 0 5
    have hle := grownCap_le_maxLen w n 0 5 (by unfold maxLen; omega)
    generalize grownCap w n 0 5 = cp at hap hge hle
    generalize hA : Builtin.zeroCells (Value.cells (.int .u8 0)) n ++ Builtin.zeroCells (Value.cells (.int .u8 0)) (cp - n) = zs at hap
    have hzs : zs.size = cp := by rw [← hA]; simp [Builtin.zeroCells, Value.cells]; omega
    have Hap := Lib.hid hap
    have Hle := Lib.hid hle
    have Hzs := Lib.hid hzs
    clear hA hi hz0 hz1 hz2 hle hzs hap
    have hc0 : (n : Int) ≤ cp := by omega
    go_enter Tryz.func138, Tryz.ntmps138
    go_wp2_with ((with_reducible refine at_append ?_); refine wpl_append_zeros rfl rfl Hap.out ?_)
    go_ret
    refine ⟨_, rfl, ?_, ((Below.refl _ w).drew).alloc (Nat.le_refl _) _⟩
    refine ⟨by simp, .inr ⟨_, cp, zs, rfl, Nat.le_refl _, blk_new w.drew _, Nat.zero_le _, Hle.out, by rw [Hzs.out, Nat.mul_one], by simp⟩⟩
/-- A slice of byte slices. -/
def RBs (w : World) (v : Value) (ls : List (List UInt8)) : Prop :=
  ∃ vs : List Value, Rd w v ls.length vs ∧ vs.length = ls.length ∧ ∀ j, j < ls.length → RB w (vs.getD j undef) (ls.getD j [])
def tot (ls : List (List UInt8)) (k : Nat) : Nat := (ls.take k).flatten.length
theorem flat_succ (ls : List (List UInt8)) (k : Nat) (h : k < ls.length) : (ls.take (k + 1)).flatten = (ls.take k).flatten ++ ls.getD k [] := by
  rw [List.take_succ_eq_append_getElem h, List.flatten_append, List.flatten_singleton]; simp [List.getD, h]
theorem tot_succ (ls : List (List UInt8)) (k : Nat) (h : k < ls.length) : tot ls (k + 1) = tot ls k + (ls.getD k []).length := by
  unfold tot; rw [flat_succ ls k h, List.length_append]
theorem tot_le (ls : List (List UInt8)) (k : Nat) : tot ls k ≤ ls.flatten.length := by
  have : ls.flatten = (ls.take k).flatten ++ (ls.drop k).flatten := by rw [← List.flatten_append, List.take_append_drop]
  unfold tot
  rw [this, List.length_append]; omega
theorem RB.len {w : World} {v : Value} {l : List UInt8} (h : RB w v l) : ∃ ao c, v = .slice ao l.length c := by
  obtain ⟨ao, c, rfl, _, _⟩ := h; exact ⟨ao, c, rfl⟩
set_option maxRecDepth 100000 in
set_option maxHeartbeats 1000000 in
theorem concat_any (v : Value) (ls : List (List UInt8)) (w : World) (h : RBs w v ls) (hn : ls.length ≤ 1000000000) (ht : ls.flatten.length ≤ 1000000000) :
    Calls Tryz.prog 108 #[v] w fun e w' => ∃ r, e = .returned r ∧ w'.ownsRow w.heap.size 5 1 r ls.flatten.length (bvals ls.flatten) ∧ Below w.heap.size w w' := by
  obtain ⟨vs, ⟨ao, c, rfl, _, hr⟩, hvl, hv⟩ := h
  obtain ⟨i0, hi, hz0, hz1, hz2⟩ := info_parts infoU8
  have Hr := Lib.hid hr
  have Hvl := Lib.hid hvl
  have Hv := Lib.hid hv
  have Hi := Lib.hid (And.intro hi (And.intro hz0 (And.intro hz1 hz2)))
  clear hr hvl hv hi hz0 hz1 hz2
  go_enter Tryz.func108, Tryz.ntmps108
  go_wp2
  go_loop [3, 11] (fun t i => ∃ k : Nat, i = .int .i64 k ∧ k ≤ ls.length ∧ t = .int .i64 (tot ls k)) (fun _ i => ls.length - (intOf i).toNat)
  case atStart => exact ⟨0, rfl, Nat.zero_le _, rfl⟩
  case round =>
    obtain ⟨k, rfl, hk, rfl⟩ := hrel
    by_cases hlt : k < ls.length
    · have hh := Hr.out
      rcases hh with ⟨h0, _⟩ | ⟨b, o, rfl, hr⟩
      · omega
      obtain ⟨ao', c', he⟩ := (Hv.out k hlt).len
      have c1 : w.cell? ⟨b, o + k, none⟩ = some (.slice ao' (ls.getD k []).length c') := by
        rw [hr k (by rw [Hvl.out]; exact hlt), ← he]
        simp [List.getD, show k < vs.length by rw [Hvl.out]; exact hlt]
      have k0 : (0 : Int) ≤ k := by omega
      have k1 : (k : Int) < ls.length := by omega
      have hs := tot_succ ls k hlt
      have hle := tot_le ls (k + 1)
      have hle2 : tot ls k + (ls.getD k []).length ≤ 1000000000 := by omega
      have Hs := Lib.hid hs
      clear hs hle hr he
      generalize (ls.getD k []).length = m at c1 hle2 Hs
      generalize hT : tot ls k = T at *
      clear hT
      go_wp2
      go_round
      case rel => exact ⟨k + 1, by go_num, by omega, by rw [Hs.out]; go_num⟩
      case measure => simp [intOf]; omega
    · obtain rfl : k = ls.length := by omega
      have hT : tot ls ls.length = ls.flatten.length := by unfold tot; rw [List.take_length]
      rw [hT]
      clear hk hlt
      generalize hN : ls.flatten.length = N at ht ⊢
      have HN := Lib.hid hN
      clear hN hT
      go_wp2_with (go_at_call 138; refine (grow_nil N ht _).mono ?_; rintro e w1 ⟨r, rfl, hown, hb⟩)
      go_loopw [6, 27] (fun r i wr => ∃ k : Nat, i = .int .i64 k ∧ k ≤ ls.length ∧ wr.ownsRow w.heap.size 5 1 r (tot ls k) (bvals (ls.take k).flatten) ∧ Below w.heap.size w wr) (fun _ i _ => ls.length - (intOf i).toNat)
      case atStart => exact ⟨0, rfl, Nat.zero_le _, by simpa [tot, bvals] using hown, hb⟩
      case round =>
        clear hown hb
        obtain ⟨k, rfl, hk, hown, hb⟩ := hrel
        by_cases hlt : k < ls.length
        · have hh := Hr.out
          rcases hh with ⟨h0, _⟩ | ⟨b, o, rfl, hr⟩
          · omega
          have hrd : RB wr (vs.getD k undef) (ls.getD k []) := Rd.belowA (Hv.out k hlt) hb
          obtain ⟨ao', c', he⟩ := (Hv.out k hlt).len
          have c1 : wr.cell? ⟨b, o + k, none⟩ = some (.slice ao' (ls.getD k []).length c') := by
            have e0 : w.cell? ⟨b, o + k, none⟩ = some (.slice ao' (ls.getD k []).length c') := by
              rw [hr k (by rw [Hvl.out]; exact hlt), ← he]
              simp [List.getD, show k < vs.length by rw [Hvl.out]; exact hlt]
            rw [hb.cell (p := ⟨b, o + k, none⟩) (cell_lt e0)]; exact e0
          rw [he] at hrd
          have k0 : (0 : Int) ≤ k := by omega
          have k1 : (k : Int) < ls.length := by omega
          have hs := tot_succ ls k hlt
          have hle := tot_le ls (k + 1)
          have hle2 : tot ls k + (ls.getD k []).length ≤ 1000000000 := by have := HN.out; omega
          have Hs := Lib.hid hs
          have hfl := flat_succ ls k hlt
          have Hfl := Lib.hid hfl
          obtain ⟨hi, hz0, hz1, hz2⟩ := Hi.out
          clear hs hle hr he hfl
          generalize ls.getD k [] = lk at hrd c1 Hs Hfl hle2
          go_wp2_with ((with_reducible refine at_append ?_); refine wpl_append (base := w.heap.size) Tryz.underlying40 hi hz0 hz1 hz2 rfl (by decide) rfl hown rfl hrd (by rw [bvals_length, Nat.mul_one]) (bvals_one _) (by unfold maxLen; omega) (by omega) hb.size ?_; intro v' w3 hown' hg)
          go_roundw
          case rel => exact ⟨k + 1, by go_num, by omega, by rw [Hs.out, Hfl.out, bvals_append]; exact hown', hb.grown hg hb.size (fun g hg' => (hown.lt g hg').1)⟩
          case measure => simp [intOf]; omega
        · go_wp2
          go_ret
          obtain rfl : k = ls.length := by omega
          refine ⟨_, rfl, ?_, hb⟩
          rw [List.take_length] at hown
          have : tot ls ls.length = N := by unfold tot; rw [List.take_length]; exact HN.out
          rw [this, ← HN.out] at hown
          exact hown
theorem join_any (v : Value) (ls : List (List UInt8)) (w : World) (h : RBs w v ls) (hn : ls.length ≤ 1000000000) (ht : ls.flatten.length ≤ 1000000000) :
    Calls Tryz.prog 73 #[v] w fun e w' => ∃ r, e = .returned r ∧ w'.ownsRow w.heap.size 5 1 r ls.flatten.length (bvals ls.flatten) ∧ Below w.heap.size w w' := by
  have H := Lib.hid h
  clear h
  go_enter Tryz.func73, Tryz.ntmps73
  go_wp2_with (go_at_call 108; refine (concat_any v ls _ H.out hn ht).mono ?_; rintro e w' ⟨r, rfl, hown, hb⟩)
  go_ret
  exact ⟨_, rfl, hown, hb⟩
end Go.Proofs.YtdeajkopmkdilaaGreat
