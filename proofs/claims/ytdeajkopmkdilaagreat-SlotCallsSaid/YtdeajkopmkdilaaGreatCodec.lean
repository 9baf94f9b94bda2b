/- mode and codec: what an id shows, by the plain mode. -/
import Derived.Test.YtdeajkopmkdilaaGreatMode
import Derived.Test.YtdeajkopmkdilaaGreatJoin
import Derived.Deep.RegionHeld3
open Go Go.RowKit
namespace Go.Proofs.YtdeajkopmkdilaaGreat
set_option linter.unusedSimpArgs false
set_option maxRecDepth 100000
set_option maxHeartbeats 1000000
def Cfg.size (c : Cfg) : Int := if c.right then 1 + (c.sid + c.nonce) else 0
theorem right_bd (c : Cfg) (h : c.right = true) : 0 ≤ c.mode ∧ c.mode ≤ 2 ∧ 1 ≤ c.sid ∧ c.sid ≤ 15 ∧ 4 ≤ c.nonce ∧ c.nonce ≤ 18 ∧ c.sid + c.nonce ≤ 19 := by
  unfold Cfg.right at h
  rw [Bool.and_eq_true, decide_eq_true_eq] at h
  exact h.1
theorem size_any (c : Cfg) (w : World) :
    Calls Tryz.prog 51 #[.agg (cfgL c).toArray] w fun e w' => e = .returned (.int .i64 c.size) ∧ Below w.heap.size w w' := by
  by_cases hr : c.right = true
  · obtain ⟨_, _, h1, h2, h3, h4, h5⟩ := right_bd c hr
    have hs : c.size = 1 + (c.sid + c.nonce) := by unfold Cfg.size; rw [if_pos hr]
    have Hs := Lib.hid hs
    clear hs
    go_enter Tryz.func51, Tryz.ntmps51
    have tok1 : True := trivial
    go_wp2_with (first | ((with_reducible refine at_load 35 ?_); first | (have _t := tok1; refine wpl_load (vs := cfgL c) rfl Tryz.underlying35 rfl size_cfg (cfgL_length _) (blk_new _ _) (fun j _ => by rw [Nat.zero_add]) ?_; clear _t tok1) | (refine wpl_load (vs := cfgL c) rfl Tryz.underlying35 rfl size_cfg (cfgL_length _) (blk_belowA hb (blk_new _ _)) (fun j _ => by rw [Nat.zero_add]) ?_)) | (go_at_call 63; refine (right_any c _).mono ?_; rintro e w2 ⟨rfl, hb⟩; rw [hr]) | (go_at_call 96; refine (both_any c ⟨by omega, by omega⟩ ⟨by omega, by omega⟩ _).mono ?_; rintro e w3 ⟨rfl, hb3⟩))
    go_ret
    exact ⟨ret_int Hs.out.symm, (((Below.refl _ _).alloc (Nat.le_refl _) _).trans (hb.mono (by simp))).trans (hb3.mono (by have := hb.size; simp at this; omega))⟩
  · have hr' : c.right = false := by simpa using hr
    have hs : c.size = 0 := by unfold Cfg.size; rw [if_neg hr]
    have Hs := Lib.hid hs
    clear hs hr
    go_enter Tryz.func51, Tryz.ntmps51
    go_wp2_with (first | ((with_reducible refine at_load 35 ?_); (refine wpl_load (vs := cfgL c) rfl Tryz.underlying35 rfl size_cfg (cfgL_length _) (blk_new _ _) (fun j _ => by rw [Nat.zero_add]) ?_)) | (go_at_call 63; refine (right_any c _).mono ?_; rintro e w2 ⟨rfl, hb⟩; rw [hr']))
    go_ret
    exact ⟨ret_int Hs.out.symm, ((Below.refl _ _).alloc (Nat.le_refl _) _).trans (hb.mono (by simp))⟩
theorem point_any (b : UInt8) (w : World) : Calls Tryz.prog 52 #[.int .u8 b.toNat] w fun e w' => e = .returned (.int .i64 ((b.toNat / 64 : Nat) : Int)) ∧ w = w' := by
  have hb := b.toNat_lt
  go_enter Tryz.func52, Tryz.ntmps52
  go_wp2
  go_ret
  exact ⟨ret_int (by simp), rfl⟩
theorem told_any (b : UInt8) (w : World) : Calls Tryz.prog 53 #[.int .u8 b.toNat] w fun e w' => e = .returned (.int .i64 ((b.toNat % 64 + 1 : Nat) : Int)) ∧ w = w' := by
  have hb := b.toNat_lt
  have hm : bits .and .u8 b.toNat 63 = ((b.toNat % 64 : Nat) : Int) := by
    have := bits_mask .u8 8 (by decide) wraps_u8 6 (by decide) b.toNat (by omega) (by omega)
    simpa using this
  go_enter Tryz.func53, Tryz.ntmps53
  go_wp2
  go_ret
  exact ⟨ret_int (by simp), rfl⟩
theorem owns_flat1 {w : World} {B e : Nat} {r : Value} {l : List UInt8} (h : w.ownsRow B e 1 r [l].flatten.length (bvals [l].flatten)) : w.ownsRow B e 1 r l.length (bvals l) := by simpa using h
theorem owns_flat_len {w : World} {B e n : Nat} {r : Value} {l : List UInt8} (h : w.ownsRow B e 1 r [l].flatten.length (bvals [l].flatten)) (hl : l.length = n) : w.ownsRow B e 1 r n (bvals l) := by
  subst hl; exact owns_flat1 h
theorem rbs_one {w : World} {v : Value} {l : List UInt8} (h : RB w v l) {g : Nat} {t : TypeId} (hg : w.heap[g]? = some (.cells #[v] t (0, 0))) : RBs w (.slice (some ⟨g, 0, none⟩) 1 1) [l] :=
  ⟨[v], Rd.of_blk (l := [v]) hg (by simp) (fun j hj => by simp), rfl, fun j hj => by obtain rfl : j = 0 := (by simp at hj; omega); exact h⟩
theorem by_plain (c : Cfg) (hr : c.right = true) (hm : c.mode = 0) (f1 f2 v : Value) (l : List UInt8) (w : World) (h : RB w v l) (hl : (l.length : Int) = c.sid + c.nonce) :
    Calls Tryz.prog 105 #[.agg (cfgL c).toArray, .agg #[f1, f2], v] w fun e w' => ∃ r, e = .returned (.tuple #[r, .int .i64 0]) ∧ w'.ownsRow w.heap.size 5 1 r l.length (bvals l) ∧ Below w.heap.size w w' := by
  obtain ⟨_, _, h1, h2, h3, h4, h5⟩ := right_bd c hr
  have hl0 : l.length ≤ 19 := by omega
  have hne : ((l.length : Int) != c.sid + c.nonce) = false := by rw [bne_eq_false_iff_eq]; exact hl
  have hm0 : (c.mode == 0) = true := by rw [beq_iff_eq]; exact hm
  obtain ⟨ao, cc, rfl, hcc, hrd⟩ := h
  have Hrd := Lib.hid (show RB w (.slice ao l.length cc) l from ⟨_, _, rfl, hcc, hrd⟩)
  have tok1 : True := trivial
  clear hl hm hrd hcc
  go_enter Tryz.func105, Tryz.ntmps105
  go_wp2_with (first | ((with_reducible refine at_load 35 ?_); first | (have _t := tok1; refine wpl_load (vs := cfgL c) rfl Tryz.underlying35 rfl size_cfg (cfgL_length _) (blk_alloc (blk_new _ _) _) (fun j _ => by rw [Nat.zero_add]) ?_; clear _t tok1) | (refine wpl_load (vs := cfgL c) rfl Tryz.underlying35 rfl size_cfg (cfgL_length _) (blk_belowA hb (blk_alloc (blk_new _ _) _)) (fun j _ => by rw [Nat.zero_add]) ?_)) | (go_at_call 63; refine (right_any c _).mono ?_; rintro e w2 ⟨rfl, hb⟩; rw [hr]) | (go_at_call 96; refine (both_any c ⟨by omega, by omega⟩ ⟨by omega, by omega⟩ _).mono ?_; rintro e w3 ⟨rfl, hb3⟩; have hz := hb3.size; have hz2 := hb.size; have c0 : w3.cell? ⟨w.heap.size, 0, none⟩ = some (.int .i64 c.mode) := cell_blk (blk_belowA hb3 (blk_belowA hb (blk_alloc (blk_new _ _) _))) rfl) | (go_at_call 73; refine (join_any _ [l] _ (rbs_one (((((Hrd.out.alloc _).alloc _).belowA hb).belowA hb3).alloc _) (blk_new _ _)) (by simp) (by simp; omega)).mono ?_; rintro e w4 ⟨r, rfl, hown, hb4⟩))
  go_ret2
  have hz4 := hb4.size
  simp at hz hz2 hz4
  refine ⟨r, rfl, ?_, ?_⟩
  · have h6 := owns_flat1 hown
    exact owns_mono h6 (by simp; omega)
  · exact ((((Below.refl _ _).alloc (Nat.le_refl _) _).alloc (by simp) _).trans (hb.mono (by simp; omega))).trans ((hb3.mono (by omega)).trans (((Below.refl _ _).alloc (by omega) _).trans (hb4.mono (by simp; omega))))
theorem back_plain (c : Cfg) (hr : c.right = true) (hm : c.mode = 0) (v : Value) (l : List UInt8) (w : World) (h : RB w v l) (hl : (l.length : Int) = c.sid + c.nonce) :
    Calls Tryz.prog 72 #[.agg (cfgL c).toArray, v] w fun e w' => ∃ r, e = .returned (.tuple #[r, .int .i64 0]) ∧ w'.ownsRow w.heap.size 5 1 r l.length (bvals l) ∧ Below w.heap.size w w' := by
  have Hm := Lib.hid hm
  have Hl := Lib.hid hl
  have H := Lib.hid h
  clear hm hl h
  go_enter Tryz.func72, Tryz.ntmps72
  go_wp2_with (first | ((with_reducible refine at_load 35 ?_); refine wpl_load (vs := cfgL c) rfl Tryz.underlying35 rfl size_cfg (cfgL_length _) (blk_new _ _) (fun j _ => by rw [Nat.zero_add]) ?_) | (go_at_call 105; refine (by_plain c hr Hm.out _ _ v l _ (H.out.alloc _) Hl.out).mono ?_; rintro e w2 ⟨r, rfl, hown, hb⟩))
  go_ret2
  exact ⟨r, rfl, owns_mono hown (by simp), ((Below.refl _ _).alloc (Nat.le_refl _) _).trans (hb.mono (by simp))⟩
/-- What an id shows. -/
structure Parts where
  point : Int
  sid : List UInt8
  nonce : List UInt8
theorem size_parts : (Tryz.prog.info? 43).map (·.size) = some 3 := by kernel_rfl
/-- The answer of Back: the parts, read. -/
def IsParts (w : World) (B : Nat) (v : Value) (p : Parts) : Prop :=
  ∃ vs vn, v = .agg #[.int .i64 p.point, vs, vn] ∧ w.ownsRow B 5 1 vs p.sid.length (bvals p.sid) ∧ w.ownsRow B 5 1 vn p.nonce.length (bvals p.nonce)
def pzero : Parts := ⟨0, [], []⟩
end Go.Proofs.YtdeajkopmkdilaaGreat
