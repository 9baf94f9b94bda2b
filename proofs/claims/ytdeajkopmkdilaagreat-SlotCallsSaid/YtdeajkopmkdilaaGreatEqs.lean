/- '==' on configurations and slots. -/
import Derived.Test.YtdeajkopmkdilaaGreatSlot
open Go Go.RowKit
namespace Go.Proofs.YtdeajkopmkdilaaGreat
def cfgEq (c e : Cfg) : Bool := c.mode == e.mode && (c.sid == e.sid && (c.nonce == e.nonce && key16 c.key == key16 e.key))
theorem run_key_eq (d : Nat) (k l : List UInt8) (w : World) : (Op.equalIn (d + 2) 27 (.agg (keyL k).toArray) (.agg (keyL l).toArray)).run Tryz.prog w = .ok (key16 k == key16 l) w :=
  run_equalIn_bytes w d 27 5 16 Tryz.underlying27 Tryz.underlying5 (fun w => by kernel_rfl) (key16 k) (key16 l) rfl rfl
theorem part_cfg0 (c : Cfg) (w : World) : (part 3 (cfgL c).toArray 0).run Tryz.prog w = .ok (.int .i64 c.mode) w := run_part1 Tryz.underlying3 rfl rfl w
theorem part_cfg1 (c : Cfg) (w : World) : (part 3 (cfgL c).toArray 1).run Tryz.prog w = .ok (.int .i64 c.sid) w := run_part1 Tryz.underlying3 rfl rfl w
theorem part_cfg2 (c : Cfg) (w : World) : (part 3 (cfgL c).toArray 2).run Tryz.prog w = .ok (.int .i64 c.nonce) w := run_part1 Tryz.underlying3 rfl rfl w
theorem part_cfg3 (c : Cfg) (w : World) : (part 27 (cfgL c).toArray 3).run Tryz.prog w = .ok (.agg (keyL c.key).toArray) w := run_partA Tryz.underlying27 rfl size_key _ _ w
theorem run_int_eq (d : Nat) (a b : Int) (w : World) : (Op.equalIn (d + 1) 3 (.int .i64 a) (.int .i64 b)).run Tryz.prog w = .ok (a == b) w := run_equalIn_int w d 3 .i64 .i64 a b Tryz.underlying3
theorem run_cfg_eq (d : Nat) (c e : Cfg) (w : World) : (Op.equalIn (d + 3) 35 (.agg (cfgL c).toArray) (.agg (cfgL e).toArray)).run Tryz.prog w = .ok (cfgEq c e) w := by
  rw [run_equalIn_struct w (d + 2) 35 _ _ (by simp [Program.fieldsOf, Tryz.underlying35]) Tryz.stoodInHeld35]
  simp only [Program.fieldsOf, Tryz.underlying35, Op.eqFields, ne_eq, String.reduceEq, not_false_eq_true, if_true, Sem.run_bind, part_cfg0, part_cfg1, part_cfg2, part_cfg3, Result.andThen_ok, run_int_eq, run_key_eq]
  unfold cfgEq
  cases h0 : (c.mode == e.mode) <;> cases h1 : (c.sid == e.sid) <;> cases h2 : (c.nonce == e.nonce) <;> cases h3 : (key16 c.key == key16 e.key) <;> simp [h0, h1, h2, h3, part_cfg1, part_cfg2, part_cfg3, run_int_eq, run_key_eq]
def slotEq (c e : Cfg) (s t : Int) : Bool := cfgEq c e && s == t
theorem part_slot0 (c : Cfg) (s : Int) (w : World) : (part 35 (rowL c s).toArray 0).run Tryz.prog w = .ok (.agg (cfgL c).toArray) w := run_partA Tryz.underlying35 rfl size_cfg _ _ w
theorem part_slot1 (c : Cfg) (s : Int) (w : World) : (part 2 (rowL c s).toArray 19).run Tryz.prog w = .ok (.int .i64 s) w := run_part1 Tryz.underlying2 rfl rfl w
theorem run_int64_eq (d : Nat) (a b : Int) (w : World) : (Op.equalIn (d + 1) 2 (.int .i64 a) (.int .i64 b)).run Tryz.prog w = .ok (a == b) w := run_equalIn_int w d 2 .i64 .i64 a b Tryz.underlying2
theorem run_slot_eq (d : Nat) (c e : Cfg) (s t : Int) (w : World) : (Op.equalIn (d + 4) 113 (.agg (rowL c s).toArray) (.agg (rowL e t).toArray)).run Tryz.prog w = .ok (slotEq c e s t) w := by
  rw [run_equalIn_struct w (d + 3) 113 _ _ (by simp [Program.fieldsOf, Tryz.underlying113]) Tryz.stoodInHeld113]
  simp only [Program.fieldsOf, Tryz.underlying113, Op.eqFields, ne_eq, String.reduceEq, not_false_eq_true, if_true, Sem.run_bind, part_slot0, part_slot1, Result.andThen_ok, run_cfg_eq, run_int64_eq]
  unfold slotEq
  cases h0 : cfgEq c e <;> cases h1 : (s == t) <;> simp [h0, h1, part_slot1, run_int64_eq]
theorem binop_cfg_eql (c e : Cfg) (w : World) : (binOp .eql 35 (.agg (cfgL c).toArray) (.agg (cfgL e).toArray)).run Tryz.prog w = .ok (.bool (cfgEq c e)) w := by
  rw [run_eql_struct, run_cfg_eq 9997]; rfl
theorem binop_cfg_neq (c e : Cfg) (w : World) : (binOp .neq 35 (.agg (cfgL c).toArray) (.agg (cfgL e).toArray)).run Tryz.prog w = .ok (.bool (!cfgEq c e)) w := by
  rw [run_neq_struct, run_cfg_eq 9997]; rfl
theorem binop_slot_eql (c e : Cfg) (s t : Int) (w : World) : (binOp .eql 113 (.agg (rowL c s).toArray) (.agg (rowL e t).toArray)).run Tryz.prog w = .ok (.bool (slotEq c e s t)) w := by
  rw [run_eql_struct, run_slot_eq 9996]; rfl
end Go.Proofs.YtdeajkopmkdilaaGreat
