/- mode.Config: within, both, Right. -/
import Derived.Test.YtdeajkopmkdilaaGreatProg
import Derived.Test.YtdeajkopmkdilaaGreatRd
import Derived.Stop.BytesEq
open Go Go.RowKit
namespace Go.Proofs.YtdeajkopmkdilaaGreat
/-- A byte of a key. -/
def kb (k : List UInt8) (i : Nat) : UInt8 := k.getD i 0
structure Cfg where
  mode : Int
  sid : Int
  nonce : Int
  key : List UInt8
def key16 (k : List UInt8) : List UInt8 := [kb k 0, kb k 1, kb k 2, kb k 3, kb k 4, kb k 5, kb k 6, kb k 7, kb k 8, kb k 9, kb k 10, kb k 11, kb k 12, kb k 13, kb k 14, kb k 15]
def keyL (k : List UInt8) : List Value := bvals (key16 k)
/-- A configuration's cells. -/
def cfgL (c : Cfg) : List Value := .int .i64 c.mode :: .int .i64 c.sid :: .int .i64 c.nonce :: keyL c.key
theorem cfgL_0 (c : Cfg) : (cfgL c)[0]? = some (.int .i64 c.mode) := rfl
theorem cfgL_1 (c : Cfg) : (cfgL c)[1]? = some (.int .i64 c.sid) := rfl
theorem cfgL_2 (c : Cfg) : (cfgL c)[2]? = some (.int .i64 c.nonce) := rfl
theorem cfgL_key (c : Cfg) (j : Nat) : (cfgL c)[3 + j]? = (keyL c.key)[j]? := by rw [Nat.add_comm]; rfl
theorem keyL_length (k : List UInt8) : (keyL k).length = 16 := rfl
theorem cfgL_length (c : Cfg) : (cfgL c).length = 19 := rfl
theorem cfgL_g0 (c : Cfg) (h : 0 < (cfgL c).length) : (cfgL c)[0]'h = .int .i64 c.mode := rfl
theorem cfgL_g1 (c : Cfg) (h : 1 < (cfgL c).length) : (cfgL c)[1]'h = .int .i64 c.sid := rfl
theorem cfgL_g2 (c : Cfg) (h : 2 < (cfgL c).length) : (cfgL c)[2]'h = .int .i64 c.nonce := rfl
attribute [go_sem] cfgL_g0 cfgL_g1 cfgL_g2 cfgL_0 cfgL_1 cfgL_2 cfgL_length
def keyZero (k : List UInt8) : Bool := (List.range 16).all fun i => kb k i == 0
def Cfg.right (c : Cfg) : Bool :=
  decide (0 ≤ c.mode ∧ c.mode ≤ 2 ∧ 1 ≤ c.sid ∧ c.sid ≤ 15 ∧ 4 ≤ c.nonce ∧ c.nonce ≤ 18 ∧ c.sid + c.nonce ≤ 19) && (if c.mode = 0 then keyZero c.key else if c.mode = 1 then decide (c.sid + c.nonce = 16) else true)
theorem within_any (n a b : Int) (w : World) : Calls Tryz.prog 101 #[.int .i64 n, .int .i64 a, .int .i64 b] w fun e w' => e = .returned (.bool (decide (a ≤ n) && decide (n ≤ b))) ∧ w = w' := by
  by_cases h : a ≤ n
  · go_enter Tryz.func101, Tryz.ntmps101
    go_wp2
    go_ret
    exact ⟨ret_bool (by simp [h]), rfl⟩
  · have h' : decide (a ≤ n) = false := by simpa using h
    go_enter Tryz.func101, Tryz.ntmps101
    go_wp2
    go_ret
    exact ⟨ret_bool (by simp), rfl⟩
theorem both_any (c : Cfg) (hs : 0 ≤ c.sid ∧ c.sid ≤ 1000) (hn : 0 ≤ c.nonce ∧ c.nonce ≤ 1000) (w : World) :
    Calls Tryz.prog 96 #[.agg (cfgL c).toArray] w fun e w' => e = .returned (.int .i64 (c.sid + c.nonce)) ∧ Below w.heap.size w w' := by
  obtain ⟨hs1, hs2⟩ := hs
  obtain ⟨hn1, hn2⟩ := hn
  go_enter Tryz.func96, Tryz.ntmps96
  go_wp2
  go_ret
  exact ⟨rfl, (Below.refl _ _).alloc (Nat.le_refl _) _⟩
def zero16 : List UInt8 := [0, 0, 0, 0, 0, 0, 0, 0, 0, 0, 0, 0, 0, 0, 0, 0]
theorem keyZero_eq (k : List UInt8) : (key16 k == zero16) = keyZero k := by
  simp [key16, zero16, keyZero, List.range, List.range.loop]
theorem key_eq (k : List UInt8) : ∀ w, (binOp .eql 27 (.agg (keyL k).toArray) (.agg #[.int .u8 0, .int .u8 0, .int .u8 0, .int .u8 0, .int .u8 0, .int .u8 0, .int .u8 0, .int .u8 0, .int .u8 0, .int .u8 0, .int .u8 0, .int .u8 0, .int .u8 0, .int .u8 0, .int .u8 0, .int .u8 0])).run Tryz.prog w = .ok (.bool (keyZero k)) w := by
  intro w
  rw [← keyZero_eq]
  exact run_eql_bytes w 27 5 16 Tryz.underlying27 Tryz.underlying5 (fun w => by kernel_rfl) (key16 k) zero16 rfl rfl
theorem size_key : (Tryz.prog.info? 27).map (·.size) = some 16 := by kernel_rfl
theorem size_cfg : (Tryz.prog.info? 35).map (·.size) = some 19 := by kernel_rfl
theorem exec_load_cfg (ev : Operand → Value) (dst : Option Tmp) (x : Operand) (tt : TypeId) (ps : String) (af : Array Edge) (gd : Option (Nat × Bool)) (w : World) (h : (partAt w (ev x) 19).isSome = true) :
    (execOp ev { dst := dst, op := .load 35 x, type := tt, pos := ps, after := af, guard := gd }).run Tryz.prog w = .ok (.value (.agg ((partAt w (ev x) 19).getD []).toArray)) w :=
  exec_load Tryz.underlying35 rfl size_cfg ev dst x tt ps af gd w h
set_option maxHeartbeats 1000000
set_option maxRecDepth 100000
theorem right_no1 (c : Cfg) (w : World) (h1 : ¬ (0 ≤ c.mode ∧ c.mode ≤ 2)) :
    Calls Tryz.prog 63 #[.agg (cfgL c).toArray] w fun e w' => e = .returned (.bool c.right) ∧ Below w.heap.size w w' := by
  have hr : c.right = false := by simp [Cfg.right]; omega
  have Hr := Lib.hid hr
  clear hr
  go_enter Tryz.func63, Tryz.ntmps63
  go_wp2_with (go_at_call 101; refine (within_any _ _ _ _).mono ?_; rintro e w' ⟨rfl, rfl⟩)
  go_ret
  exact ⟨ret_bool Hr.out.symm, (Below.refl _ _).alloc (Nat.le_refl _) _⟩

theorem right_no2 (c : Cfg) (w : World) (h11 : 0 ≤ c.mode) (h12 : c.mode ≤ 2) (h1 : ¬ (1 ≤ c.sid ∧ c.sid ≤ 15)) :
    Calls Tryz.prog 63 #[.agg (cfgL c).toArray] w fun e w' => e = .returned (.bool c.right) ∧ Below w.heap.size w w' := by
  have hr : c.right = false := by simp [Cfg.right]; omega
  have Hr := Lib.hid hr
  clear hr
  go_enter Tryz.func63, Tryz.ntmps63
  go_wp2_with (go_at_call 101; refine (within_any _ _ _ _).mono ?_; rintro e w' ⟨rfl, rfl⟩)
  go_ret
  exact ⟨ret_bool Hr.out.symm, (Below.refl _ _).alloc (Nat.le_refl _) _⟩

theorem right_no3 (c : Cfg) (w : World) (h11 : 0 ≤ c.mode) (h12 : c.mode ≤ 2) (h21 : 1 ≤ c.sid) (h22 : c.sid ≤ 15) (h1 : ¬ (4 ≤ c.nonce ∧ c.nonce ≤ 18)) :
    Calls Tryz.prog 63 #[.agg (cfgL c).toArray] w fun e w' => e = .returned (.bool c.right) ∧ Below w.heap.size w w' := by
  have hr : c.right = false := by simp [Cfg.right]; omega
  have Hr := Lib.hid hr
  clear hr
  go_enter Tryz.func63, Tryz.ntmps63
  go_wp2_with (go_at_call 101; refine (within_any _ _ _ _).mono ?_; rintro e w' ⟨rfl, rfl⟩)
  go_ret
  exact ⟨ret_bool Hr.out.symm, (Below.refl _ _).alloc (Nat.le_refl _) _⟩

theorem right_no4 (c : Cfg) (w : World) (h11 : 0 ≤ c.mode) (h12 : c.mode ≤ 2) (h21 : 1 ≤ c.sid) (h22 : c.sid ≤ 15) (h31 : 4 ≤ c.nonce) (h32 : c.nonce ≤ 18) (h1 : ¬ c.sid + c.nonce ≤ 19) :
    Calls Tryz.prog 63 #[.agg (cfgL c).toArray] w fun e w' => e = .returned (.bool c.right) ∧ Below w.heap.size w w' := by
  have hr : c.right = false := by simp [Cfg.right]; omega
  have Hr := Lib.hid hr
  clear hr
  go_enter Tryz.func63, Tryz.ntmps63
  go_wp2_with (first | (go_at_call 101; refine (within_any _ _ _ _).mono ?_; rintro e w' ⟨rfl, rfl⟩) | (go_at_call 96; refine (both_any c ⟨by omega, by omega⟩ ⟨by omega, by omega⟩ _).mono ?_; rintro e w2 ⟨rfl, hb⟩; obtain ⟨hc, hf⟩ := bcell hb) | ((with_reducible refine at_loadG 35 ?_); refine wpl_loadG (vs := cfgL c) rfl rfl rfl Tryz.underlying35 rfl size_cfg (cfgL_length _) (heap_alloc_new _ _) (fun j _ => by rw [Nat.zero_add]) ?_) | ((with_reducible refine at_load 35 ?_); refine wpl_load (vs := cfgL c) rfl Tryz.underlying35 rfl size_cfg (cfgL_length _) (heap_alloc_new _ _) (fun j _ => by rw [Nat.zero_add]) ?_) | ((with_reducible refine at_load 35 ?_); refine wpl_load (vs := cfgL c) rfl Tryz.underlying35 rfl size_cfg (cfgL_length _) ((hb.block _ (by simp)).trans (heap_alloc_new _ _)) (fun j _ => by rw [Nat.zero_add]) ?_) | ((with_reducible refine at_load 27 ?_); refine wpl_load (vs := keyL c.key) rfl Tryz.underlying27 rfl size_key (keyL_length _) ((hb.block _ (by simp)).trans (heap_alloc_new _ _)) (fun j _ => cfgL_key c j) ?_))
  go_ret
  exact ⟨ret_bool Hr.out.symm, ((Below.refl _ _).alloc (Nat.le_refl _) _).trans (hb.mono (by simp))⟩

theorem right_0 (c : Cfg) (w : World) (h11 : 0 ≤ c.mode) (h12 : c.mode ≤ 2) (h21 : 1 ≤ c.sid) (h22 : c.sid ≤ 15) (h31 : 4 ≤ c.nonce) (h32 : c.nonce ≤ 18) (h4 : c.sid + c.nonce ≤ 19) (m0 : c.mode = 0) :
    Calls Tryz.prog 63 #[.agg (cfgL c).toArray] w fun e w' => e = .returned (.bool c.right) ∧ Below w.heap.size w w' := by
  have hr : c.right = keyZero c.key := by simp [Cfg.right, m0]; omega
  have Hr := Lib.hid hr
  have hm : (c.mode == 0) = true := by simp [m0]
  have he := key_eq c.key
  clear m0 hr
  go_enter Tryz.func63, Tryz.ntmps63
  go_wp2_with (first | (go_at_call 101; refine (within_any _ _ _ _).mono ?_; rintro e w' ⟨rfl, rfl⟩) | (go_at_call 96; refine (both_any c ⟨by omega, by omega⟩ ⟨by omega, by omega⟩ _).mono ?_; rintro e w2 ⟨rfl, hb⟩; obtain ⟨hc, hf⟩ := bcell hb) | ((with_reducible refine at_loadG 35 ?_); refine wpl_loadG (vs := cfgL c) rfl rfl rfl Tryz.underlying35 rfl size_cfg (cfgL_length _) (heap_alloc_new _ _) (fun j _ => by rw [Nat.zero_add]) ?_) | ((with_reducible refine at_load 35 ?_); refine wpl_load (vs := cfgL c) rfl Tryz.underlying35 rfl size_cfg (cfgL_length _) (heap_alloc_new _ _) (fun j _ => by rw [Nat.zero_add]) ?_) | ((with_reducible refine at_load 35 ?_); refine wpl_load (vs := cfgL c) rfl Tryz.underlying35 rfl size_cfg (cfgL_length _) ((hb.block _ (by simp)).trans (heap_alloc_new _ _)) (fun j _ => by rw [Nat.zero_add]) ?_) | ((with_reducible refine at_load 27 ?_); refine wpl_load (vs := keyL c.key) rfl Tryz.underlying27 rfl size_key (keyL_length _) ((hb.block _ (by simp)).trans (heap_alloc_new _ _)) (fun j _ => cfgL_key c j) ?_))
  go_ret
  exact ⟨ret_bool Hr.out.symm, ((Below.refl _ _).alloc (Nat.le_refl _) _).trans (hb.mono (by simp))⟩

theorem right_1 (c : Cfg) (w : World) (h11 : 0 ≤ c.mode) (h12 : c.mode ≤ 2) (h21 : 1 ≤ c.sid) (h22 : c.sid ≤ 15) (h31 : 4 ≤ c.nonce) (h32 : c.nonce ≤ 18) (h4 : c.sid + c.nonce ≤ 19) (m0 : c.mode = 1) :
    Calls Tryz.prog 63 #[.agg (cfgL c).toArray] w fun e w' => e = .returned (.bool c.right) ∧ Below w.heap.size w w' := by
  have hr : c.right = (c.sid + c.nonce == 16) := by
    unfold Cfg.right
    rw [decide_eq_true (by omega), if_neg (by omega), if_pos m0, Bool.true_and]; rfl
  have Hr := Lib.hid hr
  have hm0 : (c.mode == 0) = false := by simp [m0]
  have hm : (c.mode == 1) = true := by simp [m0]
  have tok1 : True := trivial
  clear m0 hr
  go_enter Tryz.func63, Tryz.ntmps63
  go_wp2_with (first | (go_at_call 101; refine (within_any _ _ _ _).mono ?_; rintro e w' ⟨rfl, rfl⟩) | (go_at_call 96; refine (both_any c ⟨by omega, by omega⟩ ⟨by omega, by omega⟩ _).mono ?_; first | (have _t := tok1; rintro e w2 ⟨rfl, hb⟩; obtain ⟨hc, hf⟩ := bcell hb; clear tok1 _t) | (rintro e w3 ⟨rfl, hb2⟩; obtain ⟨hc2, hf2⟩ := bcell hb2)) | ((with_reducible refine at_loadG 35 ?_); refine wpl_loadG (vs := cfgL c) rfl rfl rfl Tryz.underlying35 rfl size_cfg (cfgL_length _) (heap_alloc_new _ _) (fun j _ => by rw [Nat.zero_add]) ?_) | ((with_reducible refine at_load 35 ?_); refine wpl_load (vs := cfgL c) rfl Tryz.underlying35 rfl size_cfg (cfgL_length _) (heap_alloc_new _ _) (fun j _ => by rw [Nat.zero_add]) ?_) | ((with_reducible refine at_load 35 ?_); refine wpl_load (vs := cfgL c) rfl Tryz.underlying35 rfl size_cfg (cfgL_length _) ((hb.block _ (by simp)).trans (heap_alloc_new _ _)) (fun j _ => by rw [Nat.zero_add]) ?_) | ((with_reducible refine at_load 27 ?_); refine wpl_load (vs := keyL c.key) rfl Tryz.underlying27 rfl size_key (keyL_length _) ((hb.block _ (by simp)).trans (heap_alloc_new _ _)) (fun j _ => cfgL_key c j) ?_))
  go_ret
  exact ⟨ret_bool Hr.out.symm, ((Below.refl _ _).alloc (Nat.le_refl _) _).trans ((hb.mono (by simp)).trans (hb2.mono (by have := hb.size; simp at this; omega)))⟩

theorem right_2 (c : Cfg) (w : World) (h11 : 0 ≤ c.mode) (h12 : c.mode ≤ 2) (h21 : 1 ≤ c.sid) (h22 : c.sid ≤ 15) (h31 : 4 ≤ c.nonce) (h32 : c.nonce ≤ 18) (h4 : c.sid + c.nonce ≤ 19) (m0 : c.mode = 2) :
    Calls Tryz.prog 63 #[.agg (cfgL c).toArray] w fun e w' => e = .returned (.bool c.right) ∧ Below w.heap.size w w' := by
  have hr : c.right = true := by simp [Cfg.right, m0]; omega
  have Hr := Lib.hid hr
  have hm0 : (c.mode == 0) = false := by simp [m0]
  have hm : (c.mode == 1) = false := by simp [m0]
  clear m0 hr
  go_enter Tryz.func63, Tryz.ntmps63
  go_wp2_with (first | (go_at_call 101; refine (within_any _ _ _ _).mono ?_; rintro e w' ⟨rfl, rfl⟩) | (go_at_call 96; refine (both_any c ⟨by omega, by omega⟩ ⟨by omega, by omega⟩ _).mono ?_; rintro e w2 ⟨rfl, hb⟩; obtain ⟨hc, hf⟩ := bcell hb) | ((with_reducible refine at_loadG 35 ?_); refine wpl_loadG (vs := cfgL c) rfl rfl rfl Tryz.underlying35 rfl size_cfg (cfgL_length _) (heap_alloc_new _ _) (fun j _ => by rw [Nat.zero_add]) ?_) | ((with_reducible refine at_load 35 ?_); refine wpl_load (vs := cfgL c) rfl Tryz.underlying35 rfl size_cfg (cfgL_length _) (heap_alloc_new _ _) (fun j _ => by rw [Nat.zero_add]) ?_) | ((with_reducible refine at_load 35 ?_); refine wpl_load (vs := cfgL c) rfl Tryz.underlying35 rfl size_cfg (cfgL_length _) ((hb.block _ (by simp)).trans (heap_alloc_new _ _)) (fun j _ => by rw [Nat.zero_add]) ?_) | ((with_reducible refine at_load 27 ?_); refine wpl_load (vs := keyL c.key) rfl Tryz.underlying27 rfl size_key (keyL_length _) ((hb.block _ (by simp)).trans (heap_alloc_new _ _)) (fun j _ => cfgL_key c j) ?_))
  go_ret
  exact ⟨ret_bool Hr.out.symm, ((Below.refl _ _).alloc (Nat.le_refl _) _).trans (hb.mono (by simp))⟩

theorem right_any (c : Cfg) (w : World) :
    Calls Tryz.prog 63 #[.agg (cfgL c).toArray] w fun e w' => e = .returned (.bool c.right) ∧ Below w.heap.size w w' := by
  by_cases h1 : 0 ≤ c.mode ∧ c.mode ≤ 2
  · by_cases h2 : 1 ≤ c.sid ∧ c.sid ≤ 15
    · by_cases h3 : 4 ≤ c.nonce ∧ c.nonce ≤ 18
      · by_cases h4 : c.sid + c.nonce ≤ 19
        · rcases (show c.mode = 0 ∨ c.mode = 1 ∨ c.mode = 2 by omega) with m | m | m
          · exact right_0 c w h1.1 h1.2 h2.1 h2.2 h3.1 h3.2 h4 m
          · exact right_1 c w h1.1 h1.2 h2.1 h2.2 h3.1 h3.2 h4 m
          · exact right_2 c w h1.1 h1.2 h2.1 h2.2 h3.1 h3.2 h4 m
        · exact right_no4 c w h1.1 h1.2 h2.1 h2.2 h3.1 h3.2 h4
      · exact right_no3 c w h1.1 h1.2 h2.1 h2.2 h3
    · exact right_no2 c w h1.1 h1.2 h2
  · exact right_no1 c w h1
end Go.Proofs.YtdeajkopmkdilaaGreat
