/- crosswayref00: SameBytes, CopyBytes. -/
import Derived.Test.YtdeajkopmkdilaaGreatProg
import Derived.Test.YtdeajkopmkdilaaGreatRd
import Derived.Deep.QuietTactic
import Derived.BigQuiet
open Go Go.RowKit
namespace Go.Proofs.YtdeajkopmkdilaaGreat
theorem infoU8 : (Tryz.prog.info? 5).map (fun i => (i.zero, i.size, i.bytes)) = some (some (.int .u8 0), 1, 1) := by kernel_rfl
theorem below_grown {w w1 w2 : World} {v : Value} (hb : Below w.heap.size w w1) (hg : w1.grownBy w2 v.ownBlock) (hv : ∀ k, v.ownBlock = some k → w.heap.size ≤ k) : Below w.heap.size w w2 :=
  hb.grown hg hb.size (fun k hk => hv k hk)
theorem copy_any (v : Value) (l : List UInt8) (w : World) (h : RB w v l) (hl : l.length ≤ 1000000000) :
    Calls Tryz.prog 16 #[v] w fun e w' => ∃ r, e = .returned r ∧ w'.ownsRow w.heap.size 5 1 r l.length (bvals l) ∧ Below w.heap.size w w' := by
  obtain ⟨i0, hi, hz0, hz1, hz2⟩ := info_parts infoU8
  have hmk : ∀ w : World, (Instr.buildSlice 40 0 #[]).run Tryz.prog w = .ok (.slice (some ⟨w.heap.size, 0, none⟩) 0 0) (w.alloc (.cells #[] 5)) := fun _ => by kernel_rfl
  go_enter Tryz.func16, Tryz.ntmps16
  go_wp2_with ((with_reducible refine at_append ?_); refine wpl_append (base := w.heap.size) (n := 0) (xs := []) Tryz.underlying40 hi hz0 hz1 hz2 rfl (by decide) rfl (World.ownsRow_made w #[] 0 (Nat.le_refl _) (by decide) rfl) rfl (h.alloc _) (by rw [bvals_length, Nat.mul_one]) (bvals_one l) (by unfold maxLen; omega) (by omega) (by simp) ?_; intro v' w1 hown hg)
  go_ret
  refine ⟨_, rfl, by simpa using hown, below_grown ((Below.refl _ _).alloc (Nat.le_refl _) _) hg (fun k hk => by cases hk; exact Nat.le_refl _)⟩
theorem bv_ne (x y : UInt8) : (((x.toNat : Int) != (y.toNat : Int)) = !(x == y)) := by
  by_cases h : x = y
  · subst h; simp
  · have : (x.toNat : Int) ≠ (y.toNat : Int) := fun e => h (UInt8.toNat_inj.1 (by omega))
    rw [bne_iff_ne.2 this, beq_false_of_ne h]; rfl
theorem take_eq_succ (l m : List UInt8) (k : Nat) (hl : k < l.length) (hm : k < m.length) (h : l.take k = m.take k) : (l.take (k + 1) = m.take (k + 1)) ↔ l.getD k 0 = m.getD k 0 := by
  rw [List.take_succ_eq_append_getElem hl, List.take_succ_eq_append_getElem hm, h, List.append_cancel_left_eq]
  simp [List.getD, hl, hm]
set_option maxHeartbeats 1000000 in
theorem same_any (v1 v2 : Value) (l m : List UInt8) (w : World) (h1 : RB w v1 l) (h2 : RB w v2 m) (hl : l.length ≤ 1000000000000000) :
    Calls Tryz.prog 22 #[v1, v2] w fun e w' => e = .returned (.bool (l == m)) ∧ ∃ n, w' = w.drewN n := by
  obtain ⟨ao, c, rfl, _, h1⟩ := h1
  obtain ⟨ao', c', rfl, _, h2⟩ := h2
  by_cases hne : l.length = m.length
  · rw [← hne]
    have H1 := Lib.hid h1
    have H2 := Lib.hid h2
    have Hne := Lib.hid hne
    clear h1 h2 hne
    go_enter Tryz.func22, Tryz.ntmps22
    go_wp2
    go_loopw [5] (fun i wr => ∃ k n : Nat, i = .int .i64 k ∧ k ≤ l.length ∧ l.take k = m.take k ∧ wr = w.drewN n) (fun i _ => l.length - (intOf i).toNat)
    case atStart => exact ⟨0, 0, rfl, Nat.zero_le _, rfl, rfl⟩
    case round =>
      obtain ⟨k, n, rfl, hk, ht, rfl⟩ := hrel
      have Ht := Lib.hid ht
      clear ht
      by_cases hlt : k < l.length
      · have hh1 := H1.out
        have hh2 := H2.out
        rcases hh1 with ⟨h0, _⟩ | ⟨b, o, rfl, h1⟩
        · omega
        rcases hh2 with ⟨h0, _⟩ | ⟨b', o', rfl, h2⟩
        · have := Hne.out; omega
        have c1 : w.cell? ⟨b, o + k, none⟩ = some (.int .u8 (l.getD k 0).toNat) := (h1 k (by rw [bvals_length]; exact hlt)).trans (bvals_at l k hlt)
        have c2 : w.cell? ⟨b', o' + k, none⟩ = some (.int .u8 (m.getD k 0).toNat) := (h2 k (by rw [bvals_length, ← Hne.out]; exact hlt)).trans (bvals_at m k (by rw [← Hne.out]; exact hlt))
        have hs := take_eq_succ l m k hlt (by rw [← Hne.out]; exact hlt) Ht.out
        have Hs := Lib.hid hs
        have k0 : (0 : Int) ≤ k := by omega
        have k1 : (k : Int) < l.length := by omega
        generalize l.getD k 0 = x at c1 Hs
        generalize m.getD k 0 = y at c2 Hs
        clear hs h1 h2 hk
        go_wp2
        go_quiet (fail)
        by_cases hxy : x = y
        · have e1 : ((x.toNat : Int) != (y.toNat : Int)) = false := by rw [bv_ne, hxy]; simp
          have Hxy := Lib.hid hxy
          clear hxy
          go_wp2
          go_roundw
          case rel => exact ⟨k + 1, _, by go_num, by omega, Hs.out.2 Hxy.out, rfl⟩
          case measure => simp [intOf]; omega
        · have e1 : ((x.toNat : Int) != (y.toNat : Int)) = true := by rw [bv_ne, beq_false_of_ne hxy]; rfl
          have Hxy := Lib.hid hxy
          clear hxy
          go_wp2
          go_ret
          refine ⟨ret_bool ?_, _, World.drewN_drewN ..⟩
          symm
          rw [beq_eq_false_iff_ne]
          intro e
          exact Hxy.out (Hs.out.1 (by rw [e]))
      · go_wp2
        go_ret
        refine ⟨ret_bool ?_, _, rfl⟩
        have e : k = l.length := by omega
        have := Ht.out
        rw [e, List.take_length, Hne.out, List.take_length] at this
        simp [this]
  · have hn : ((l.length : Int) != (m.length : Int)) = true := by rw [bne_iff_ne]; omega
    have he : (l == m) = false := by simp; intro e; exact hne (by rw [e])
    have He := Lib.hid he
    clear hne he
    go_enter Tryz.func22, Tryz.ntmps22
    go_wp2
    go_ret
    exact ⟨ret_bool He.out.symm, 0, rfl⟩
end Go.Proofs.YtdeajkopmkdilaaGreat
