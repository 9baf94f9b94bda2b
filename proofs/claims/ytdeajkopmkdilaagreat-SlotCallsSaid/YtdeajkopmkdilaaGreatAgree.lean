/- crosswaylaw18.Agree: both forms hold the same. -/
import Derived.Test.YtdeajkopmkdilaaGreatDo
import Derived.Test.YtdeajkopmkdilaaGreatAll
import Derived.LoopTactic
import Derived.Test.YtdeajkopmkdilaaGreatRangeB
open Go Go.RowKit Go.Shelf
namespace Go.Proofs.YtdeajkopmkdilaaGreat
set_option linter.unusedSimpArgs false
set_option linter.unusedVariables false
set_option maxRecDepth 100000
set_option maxHeartbeats 1000000
theorem exec_load_rcfg (ev : Operand → Value) (dst : Option Tmp) (x : Operand) (tt : TypeId) (ps : String) (af : Array Edge) (gd : Option (Nat × Bool)) (w : World) (h : (partAt w (ev x) 19).isSome = true) :
    (execOp ev { dst := dst, op := .load 29 x, type := tt, pos := ps, after := af, guard := gd }).run Tryz.prog w = .ok (.value (.agg ((partAt w (ev x) 19).getD []).toArray)) w :=
  exec_load Tryz.underlying29 rfl size_rcfg ev dst x tt ps af gd w h
theorem part_rcfg0 (c : Cfg) (w : World) : (part 3 (cfgL c).toArray 0).run Tryz.prog w = .ok (.int .i64 c.mode) w := run_part1 Tryz.underlying3 rfl rfl w
theorem run_rcfg_eq (d : Nat) (c e : Cfg) (w : World) : (Op.equalIn (d + 3) 29 (.agg (cfgL c).toArray) (.agg (cfgL e).toArray)).run Tryz.prog w = .ok (cfgEq c e) w := by
  rw [run_equalIn_struct w (d + 2) 29 _ _ (by simp [Program.fieldsOf, Tryz.underlying29]) Tryz.stoodInHeld29]
  simp only [Program.fieldsOf, Tryz.underlying29, Op.eqFields, ne_eq, String.reduceEq, not_false_eq_true, if_true, Sem.run_bind, part_cfg0, part_cfg1, part_cfg2, part_cfg3, Result.andThen_ok, run_int_eq, run_key_eq]
  unfold cfgEq
  cases h0 : (c.mode == e.mode) <;> cases h1 : (c.sid == e.sid) <;> cases h2 : (c.nonce == e.nonce) <;> cases h3 : (key16 c.key == key16 e.key) <;> simp [h0, h1, h2, h3, part_cfg1, part_cfg2, part_cfg3, run_int_eq, run_key_eq]
theorem binop_rcfg_neq (c e : Cfg) (w : World) : (binOp .neq 29 (.agg (cfgL c).toArray) (.agg (cfgL e).toArray)).run Tryz.prog w = .ok (.bool (!cfgEq c e)) w := by
  rw [run_neq_struct, run_rcfg_eq 9997]; rfl
theorem built_cfg0 : Tryz.prog.built 35 [] = some (cfgL czero).toArray := by kernel_rfl
theorem cfgEq_refl (c : Cfg) : cfgEq c c = true := by simp [cfgEq]
theorem of_no (b : Nat) (p : Int) (S : Sl) (h : (p < 0 ∨ 3 ≤ p) ∨ S.st p.toNat = 0) (w : World) (hb : w.heap[b]? = some (.cells (slL S).toArray 116 (0, 0))) :
    Calls Tryz.prog 37 #[.pointer (some ⟨b, 0, none⟩), .int .i64 p] w fun e w' => e = .returned (.tuple #[.agg (cfgL czero).toArray, .bool false]) ∧ Below w.heap.size w w' := by
  by_cases hp : p < 0 ∨ 3 ≤ p
  · exact of_out b p hp w
  · obtain ⟨k, rfl⟩ : ∃ k : Nat, p = (k : Int) := ⟨p.toNat, by omega⟩
    exact of_empty b k (by omega) S w hb (h.resolve_left hp)
theorem stamp_no (b : Nat) (p : Int) (S : Sl) (h : (p < 0 ∨ 3 ≤ p) ∨ S.st p.toNat = 0) (w : World) (hb : w.heap[b]? = some (.cells (slL S).toArray 116 (0, 0))) :
    Calls Tryz.prog 38 #[.pointer (some ⟨b, 0, none⟩), .int .i64 p] w fun e w' => e = .returned (.int .i64 0) ∧ w = w' := by
  by_cases hp : p < 0 ∨ 3 ≤ p
  · exact stamp_out b p hp w
  · obtain ⟨k, rfl⟩ : ∃ k : Nat, p = (k : Int) := ⟨p.toNat, by omega⟩
    have := stamp_in b k (by omega) S w hb
    rw [show S.st k = 0 from h.resolve_left hp] at this
    exact this
attribute [local go_sem] Oper.semAt_some
attribute [local go_sem ↓] exec_load_cfg exec_load_rcfg
attribute [local go_sem] binop_rcfg_neq binop_cfg_neq built_cfg0 cfgEq_refl

/-- The last one that has come. -/
def lastOf : List Nat → Int
  | [] => -1
  | [x] => x
  | _ :: y :: l => lastOf (y :: l)
theorem lastOf_snoc (l : List Nat) (x : Nat) : lastOf (l ++ [x]) = x := by
  induction l with
  | nil => rfl
  | cons y l ih =>
    cases l with
    | nil => rfl
    | cons z l => simpa [lastOf] using ih
theorem act_good (S : Sl) (k : Nat) (hk : k ≤ 3) (q : List Nat) (x : Nat) (h : q ++ [x] = act S k) : lastOf q < x ∧ x < 3 ∧ S.st x ≠ 0 := by
  have h' : act S k = q ++ [x] := h.symm
  have hm : x ∈ act S k := by rw [h']; simp
  unfold act at hm h'
  simp only [List.mem_filter, List.mem_range, bne_iff_ne] at hm
  refine ⟨?_, by omega, hm.2⟩
  have hs : (q ++ [x]).Pairwise (· < ·) := by rw [← h']; exact List.Pairwise.filter _ List.pairwise_lt_range
  rw [List.pairwise_append] at hs
  rcases List.eq_nil_or_concat q with rfl | ⟨l, y, rfl⟩
  · simp [lastOf]; omega
  · rw [List.concat_eq_append, lastOf_snoc]
    have := hs.2.2 y (by simp) x (by simp)
    omega
theorem act_len3 (S : Sl) (h : ∀ k, 0 ≤ S.st k) : (((act S 3).length : Nat) : Int) = (if 0 < S.st 0 then 1 else 0) + (if 0 < S.st 1 then 1 else 0) + (if 0 < S.st 2 then 1 else 0) := by
  have h0 := h 0
  have h1 := h 1
  have h2 := h 2
  rw [show (3 : Nat) = 2 + 1 from rfl, act_succ, show (2 : Nat) = 1 + 1 from rfl, act_succ, show (1 : Nat) = 0 + 1 from rfl, act_succ]
  have z : ∀ s : Int, 0 ≤ s → (s != 0) = decide (0 < s) := by
    intro s hs
    by_cases h : s = 0
    · subst h; rfl
    · rw [bne_iff_ne.2 h, decide_eq_true (by omega)]
  simp only [z _ h0, z _ h1, z _ h2, act, List.range_zero, List.filter_nil, List.nil_append, decide_eq_true_eq]
  split <;> split <;> split <;> rfl
theorem rslL_part (S : Sl) (k : Nat) (hk : k < 3) : ((rslL S).drop (k * 19)).take 19 = cfgL (S.r k) := by
  rcases (show k = 0 ∨ k = 1 ∨ k = 2 by omega) with rfl | rfl | rfl <;> rfl
theorem agree_any (b b2 : Nat) (hne : b ≠ b2) (S : Sl) (m : Int) (hok : SlOk S m) (w : World) (hS : w.heap[b]? = some (.cells (slL S).toArray 116 (0, 0))) (hR : w.heap[b2]? = some (.cells (rslL S).toArray 33 (0, 0))) :
    Calls Tryz.prog 14 #[.pointer (some ⟨b, 0, none⟩), .pointer (some ⟨b2, 0, none⟩)] w fun e w' => e = .returned (.bool true) ∧ Below w.heap.size w w' := by
  have hlt := blk_lt hS
  have hlt2 := blk_lt hR
  have hB := blk_alloc (blk_new w (.cells #[.pointer (some ⟨b2, 0, none⟩)] 26)) (.cells #[.bool false] 4)
  have hC := blk_new (w.alloc (.cells #[.pointer (some ⟨b2, 0, none⟩)] 26)) (.cells #[.bool false] 4)
  rw [World.size_alloc] at hC
  have hS1 := blk_alloc (blk_alloc hS (.cells #[.pointer (some ⟨b2, 0, none⟩)] 26)) (.cells #[.bool false] 4)
  have hR1 := blk_alloc (blk_alloc hR (.cells #[.pointer (some ⟨b2, 0, none⟩)] 26)) (.cells #[.bool false] 4)
  have hbW : Below w.heap.size w ((w.alloc (.cells #[.pointer (some ⟨b2, 0, none⟩)] 26)).alloc (.cells #[.bool false] 4)) := ((Below.refl _ _).alloc (Nat.le_refl _) _).alloc (by simp) _
  have hzW : ((w.alloc (.cells #[.pointer (some ⟨b2, 0, none⟩)] 26)).alloc (.cells #[.bool false] 4)).heap.size = w.heap.size + 2 := by simp
  refine (callsIn_wide (n := 9)).1 ?_
  refine callsIn_of_wp_marks Tryz.func14 rfl trivial ?_ rfl
  simp only [Tryz.ntmps14, List.size_toArray, List.length_cons, List.length_nil, Nat.reduceAdd, Nat.reduceSub, Array.replicate_succ, Array.replicate_zero, List.push_toArray, List.append_toArray, List.nil_append, List.cons_append]
  refine wpIn_wide.2 ?_
  go_wp2
  generalize (w.alloc (.cells #[.pointer (some ⟨b2, 0, none⟩)] 26)).alloc (.cells #[.bool false] 4) = W at hB hC hS1 hR1 hbW hzW ⊢
  go_loopw [5] (fun i wr => ∃ k : Nat, i = .int .i64 ((k : Int) - 1) ∧ k ≤ 5 ∧ Below W.heap.size W wr) (fun i _ => (4 - intOf i).toNat)
  case atStart => exact ⟨0, rfl, Nat.zero_le _, Below.refl _ _⟩
  case round =>
    obtain ⟨k, rfl, hk, hb⟩ := hrel
    have hz := hb.size
    have hBr := blk_belowA hb hB
    have hCr := blk_belowA hb hC
    have hSr := blk_belowA hb hS1
    have hRr := blk_belowA hb hR1
    have cB : wr.cell? ⟨w.heap.size, 0, none⟩ = some (.pointer (some ⟨b2, 0, none⟩)) := cell_blk hBr rfl
    clear hB hC hS1 hR1
    have hbw := hbW
    by_cases h5 : k = 5
    · subst h5
      clear hbW hk
      go_wp2_with (go_at_call 54; refine (all_any b _).mono ?_; rintro e w' ⟨rfl, rfl⟩)
      have bL := ((Boxed.new wr 3 (.int .i64 (-1))).alloc (.cells #[.int .i64 0] 3)).alloc (.cells #[.pointer (some ⟨b, 0, none⟩)] 24)
      have bN := (Boxed.new (wr.alloc (.cells #[.int .i64 (-1)] 3)) 3 (.int .i64 0)).alloc (.cells #[.pointer (some ⟨b, 0, none⟩)] 24)
      have bA := Boxed.new ((wr.alloc (.cells #[.int .i64 (-1)] 3)).alloc (.cells #[.int .i64 0] 3)) 24 (.pointer (some ⟨b, 0, none⟩))
      simp only [World.size_alloc] at bN bA
      have bR : Boxed (((wr.alloc (.cells #[.int .i64 (-1)] 3)).alloc (.cells #[.int .i64 0] 3)).alloc (.cells #[.pointer (some ⟨b, 0, none⟩)] 24)) w.heap.size 26 (.pointer (some ⟨b2, 0, none⟩)) := blk_alloc (blk_alloc (blk_alloc hBr _) _) _
      have bC : Boxed (((wr.alloc (.cells #[.int .i64 (-1)] 3)).alloc (.cells #[.int .i64 0] 3)).alloc (.cells #[.pointer (some ⟨b, 0, none⟩)] 24)) (w.heap.size + 1) 4 (.bool false) := blk_alloc (blk_alloc (blk_alloc hCr _) _) _
      have hB0 : Below w.heap.size w (((wr.alloc (.cells #[.int .i64 (-1)] 3)).alloc (.cells #[.int .i64 0] 3)).alloc (.cells #[.pointer (some ⟨b, 0, none⟩)] 24)) := (((hbw.trans (hb.mono (by omega))).alloc (by omega) _).alloc (by simp; omega) _).alloc (by simp; omega) _
      have hsz : (((wr.alloc (.cells #[.int .i64 (-1)] 3)).alloc (.cells #[.int .i64 0] 3)).alloc (.cells #[.pointer (some ⟨b, 0, none⟩)] 24)).heap.size = wr.heap.size + 3 := by simp
      generalize hW0 : ((wr.alloc (.cells #[.int .i64 (-1)] 3)).alloc (.cells #[.int .i64 0] 3)).alloc (.cells #[.pointer (some ⟨b, 0, none⟩)] 24) = W0 at bL bN bA bR bC hB0 hsz ⊢
      clear hW0 hBr hCr hSr hRr cB
      generalize hX : wr.heap.size = X at *
      clear hb hX
      have hX : w.heap.size + 2 ≤ X := by omega
      refine (wpIn_wide (n := 9)).1 ?_
      refine rangeFunc_box rfl (by decide) (gf := 97) (lb := #[.pointer (some ⟨X + 1 + 1, 0, none⟩)]) rfl trivial (enters_of Tryz.func97 (by kernel_rfl) rfl)
        (all_stops Fence.wide 8 trivial rfl (by decide) (X + 1 + 1) b w.heap.size S W0 (by omega) bA.cell (blk_below hB0 hS hlt)) belowK_t (belowK_b (by omega)) (Below.refl _ _) (fun _ => rfl)
        (fun pre W' => ((Boxed W' X 3 (.int .i64 (lastOf pre)) ∧ Boxed W' (X + 1) 3 (.int .i64 (pre.length : Int))) ∧ (Boxed W' w.heap.size 26 (.pointer (some ⟨b2, 0, none⟩)) ∧ Boxed W' (w.heap.size + 1) 4 (.bool false))) ∧ Below w.heap.size w W')
        (fun c pre _ => c = .ret ∧ ∃ (q : List Nat) (x : Nat), pre = q ++ [x] ∧ ¬ (lastOf q < (x : Int) ∧ x < 3 ∧ S.st x ≠ 0))
        (OwnFrom.and (OwnFrom.and (OwnFrom.and (Own.from (boxed_own _ _ _) _) (Own.from (boxed_own _ _ _) _)) (OwnFrom.and (Own.from (boxed_own _ _ _) _) (Own.from (boxed_own _ _ _) _))) (ownFrom_below (Nat.le_refl _) (by omega)))
        (fun c => ownFrom_pure _ _)
        ⟨⟨⟨bL, bN⟩, bR, bC⟩, hB0⟩
        (fun tm x Bx => (((tm.setIfInBounds 69 (.int .i64 (x : Int))).setIfInBounds 70 (.agg (cfgL (S.r x)).toArray)).setIfInBounds 10 (.int .i64 (x : Int))).setIfInBounds 11 (.pointer (some ⟨Bx, 0, none⟩))) (fun x => (cfgL (S.r x)).toArray) 35
        ?assign ?body ?done ?stop
      case assign =>
        rintro l pre x W1 K ⟨⟨⟨bL, bN⟩, bR, bC⟩, hB1⟩ hK
        obtain ⟨hcan, hput⟩ := zcfg_new W1 (S.r x)
        have Hcan := Lib.hid hcan
        have Hput := Lib.hid hput
        clear hcan hput
        dsimp only [encS]
        gi_wp2_with ((with_reducible refine atIn_store 35 ?_); refine wplIn_store rfl size_cfg Hcan.out Hput.out ?_)
        exact hK _ _ ((KeepsOthers.alloc _ _).from _) ((Below.refl _ W1).alloc hB1.size _) ⟨⟨⟨bL.alloc _, bN.alloc _⟩, bR.alloc _, bC.alloc _⟩, hB1.alloc hB1.size _⟩ ⟨W1.heap.size, blk_new _ _, rfl⟩
      case body =>
        rintro l pre x Bx W1 ⟨⟨⟨bL, bN⟩, bR, bC⟩, hB1⟩ hX1 hlen
        simp only [List.setIfInBounds_toArray, List.set_cons_succ, List.set_cons_zero]
        have hR1 := blk_below hB1 hR hlt2
        have hpx : partAt W1 (.pointer (some ⟨Bx, 0, none⟩)) 19 = some (cfgL (S.r x)) := partAt_blk hX1 (by simp [cfgL_length]) rfl
        have hlen1 : (pre.length : Int) < 3 := by omega
        have hlen0 : 0 ≤ (pre.length : Int) := by omega
        have Hp := Lib.hid (And.intro hlen (And.intro hB1 (And.intro bL (And.intro bN (And.intro bR bC)))))
        have F : ∀ w', Below W1.heap.size W1 w' → w'.cell? ⟨X, 0, none⟩ = some (.int .i64 (lastOf pre)) ∧ w'.cell? ⟨w.heap.size, 0, none⟩ = some (.pointer (some ⟨b2, 0, none⟩)) ∧ w'.heap[b2]? = some (.cells (rslL S).toArray 33 (0, 0)) ∧ partAt w' (.pointer (some ⟨Bx, 0, none⟩)) 19 = some (cfgL (S.r x)) ∧ (x < 3 → partAt w' (.pointer (some ⟨b2, x * 19, none⟩)) 19 = some (cfgL (S.r x))) :=
          fun w' h => ⟨Boxed.cell (blk_belowA h bL), Boxed.cell (blk_belowA h bR), blk_belowA h hR1, partAt_below hpx h, fun h3 => partAt_below (partAt_blk hR1 (by rw [rslL_length]; omega) (rslL_part S x h3)) h⟩
        have hs0 := hok.st0 x
        by_cases hg : lastOf pre < (x : Int) ∧ x < 3 ∧ S.st x ≠ 0
        · obtain ⟨g1, g2, g3⟩ := hg
          have G := Lib.hid (And.intro g2 g3)
          have hh : (decide (0 ≤ (x : Int) ∧ (x : Int) < 3) && decide (0 < S.st (x : Int).toNat)) = true := by
            rw [Int.toNat_natCast]; simp; omega
          have hhas : ∀ w', Below W1.heap.size W1 w' → Calls Tryz.prog 58 #[.pointer (some ⟨b2, 0, none⟩), .int .i64 (x : Int)] w' fun e w'' => e = .returned (.bool true) ∧ w' = w'' := fun w' h => by
            have := has_any b2 x S w' (F w' h).2.2.1
            rw [hh] at this
            exact this
          have cz : ∀ w : World, (binOp .neq 29 (.agg (cfgL (S.r x)).toArray) (.agg (cfgL (S.r x)).toArray)).run Tryz.prog w = .ok (.bool false) w := fun w => by rw [binop_rcfg_neq, cfgEq_refl]; rfl
          have x0 : (0 : Int) ≤ x := by omega
          have x3 : (x : Int) < 3 := by omega
          have d0 : decide ((x : Int) ≤ lastOf pre) = false := by simp; omega
          replace F := Lib.hid (fun w' h => ⟨(F w' h).1, (F w' h).2.1, (F w' h).2.2.2.1, (F w' h).2.2.2.2 g2⟩ : ∀ w', Below W1.heap.size W1 w' → w'.cell? ⟨X, 0, none⟩ = some (.int .i64 (lastOf pre)) ∧ w'.cell? ⟨w.heap.size, 0, none⟩ = some (.pointer (some ⟨b2, 0, none⟩)) ∧ partAt w' (.pointer (some ⟨Bx, 0, none⟩)) 19 = some (cfgL (S.r x)) ∧ partAt w' (.pointer (some ⟨b2, x * 19, none⟩)) 19 = some (cfgL (S.r x)))
          clear hh g1 g2 g3 hs0 hlen hB1 bL bN bR bC hR1 hpx hX1 hbw hB0 bA
          gi_wp2
          refine region_class_round (fun w' => Below W1.heap.size W1 w') (by kernel_rfl) (by kernel_rfl) (by kernel_rfl) (Below.refl _ _).drew ?_
          iterate 6 (first | ((with_reducible refine q_skip ?_ ?_); exact rfl; simp only [Act.put, List.setIfInBounds_toArray, List.set_cons_succ, List.set_cons_zero]) | ((first | (with_reducible refine q_go0 ?_) | ((with_reducible refine q_go ?_ ?_); exact rfl)); apply Exists.intro; refine ⟨fun w1 hC => ?_, ?_⟩; (have f1 := F.out w1 hC; (go_simp <;> exact rfl)); simp only [Act.put, List.setIfInBounds_toArray, List.set_cons_succ, List.set_cons_zero]))
          ((first | (with_reducible refine q_goC0 ?_) | ((with_reducible refine q_goC ?_ ?_); exact rfl)); apply Exists.intro; refine ⟨fun w1 hC => ?_, ?_⟩; (have f1 := F.out w1 hC; apply Exists.intro; apply Exists.intro; refine ⟨?_, ?_⟩; (go_simp <;> exact ⟨rfl, rfl⟩); exact callC_same (hhas w1 hC) hC); simp only [Act.put, List.setIfInBounds_toArray, List.set_cons_succ, List.set_cons_zero])
          iterate 4 (first | ((with_reducible refine q_skip ?_ ?_); exact rfl; simp only [Act.put, List.setIfInBounds_toArray, List.set_cons_succ, List.set_cons_zero]) | ((first | (with_reducible refine q_go0 ?_) | ((with_reducible refine q_go ?_ ?_); exact rfl)); apply Exists.intro; refine ⟨fun w1 hC => ?_, ?_⟩; (have f1 := F.out w1 hC; (go_simp <;> exact rfl)); simp only [Act.put, List.setIfInBounds_toArray, List.set_cons_succ, List.set_cons_zero]))
          ((first | (with_reducible refine q_goC0 ?_) | ((with_reducible refine q_goC ?_ ?_); exact rfl)); apply Exists.intro; refine ⟨fun w1 hC => ?_, ?_⟩; (have f1 := F.out w1 hC; apply Exists.intro; apply Exists.intro; refine ⟨?_, ?_⟩; (go_simp <;> exact ⟨rfl, rfl⟩); exact callC_below (of16_any (S.r x) w1) hC (Nat.le_refl _)); simp only [Act.put, List.setIfInBounds_toArray, List.set_cons_succ, List.set_cons_zero])
          iterate 8 (first | ((with_reducible refine q_skip ?_ ?_); exact rfl; simp only [Act.put, List.setIfInBounds_toArray, List.set_cons_succ, List.set_cons_zero]) | ((first | (with_reducible refine q_go0 ?_) | ((with_reducible refine q_go ?_ ?_); exact rfl)); apply Exists.intro; refine ⟨fun w1 hC => ?_, ?_⟩; (have f1 := F.out w1 hC; (go_simp <;> exact rfl)); simp only [Act.put, List.setIfInBounds_toArray, List.set_cons_succ, List.set_cons_zero]))
          refine q_nil ?_
          intro w5 hb5
          have bN5 := blk_belowA hb5 Hp.out.2.2.2.1
          have bL5 := blk_belowA hb5 Hp.out.2.2.1
          have cN := Boxed.cell bN5
          have fN := Boxed.frozen bN5
          have fL := Boxed.frozen bL5
          have cL := Boxed.cell bL5
          have cN2 : (w5.setCell ⟨X, 0, none⟩ (.int .i64 (x : Int))).cell? ⟨X + 1, 0, none⟩ = some (.int .i64 (pre.length : Int)) := Boxed.cell (Boxed.other bN5 (by omega) _)
          have bN6 : Boxed (w5.setCell ⟨X, 0, none⟩ (.int .i64 (x : Int))) (X + 1) 3 (.int .i64 (pre.length : Int)) := Boxed.other bN5 (by omega) _
          have q6 : Boxed ((w5.setCell ⟨X, 0, none⟩ (.int .i64 (x : Int))).setCell ⟨X + 1, 0, none⟩ (.int .i64 ((pre.length : Int) + 1))) X 3 (.int .i64 (x : Int)) ∧ Boxed ((w5.setCell ⟨X, 0, none⟩ (.int .i64 (x : Int))).setCell ⟨X + 1, 0, none⟩ (.int .i64 ((pre.length : Int) + 1))) (X + 1) 3 (.int .i64 ((pre.length : Int) + 1)) := ⟨Boxed.other (Boxed.set _ bL5) (by omega) _, Boxed.set _ bN6⟩
          have Q6 := Lib.hid q6
          clear bN5 bL5 bN6 q6
          gi_wp2
          obtain ⟨hlen, hB1, bL, bN, bR, bC⟩ := Hp.out
          have hz1 := hB1.size
          have hB5 : Below w.heap.size W1 ((w5.setCell ⟨X, 0, none⟩ (.int .i64 (x : Int))).setCell ⟨X + 1, 0, none⟩ (.int .i64 ((pre.length : Int) + 1))) := ((hb5.mono hz1).setCell (p := ⟨X, 0, none⟩) (by simp; omega) _).setCell (p := ⟨X + 1, 0, none⟩) (by simp; omega) _
          refine ⟨(keepsFrom_below hb5).trans (((KeepsOthers.setCell _ _ _).trans (KeepsOthers.setCell _ _ _)).from _), hB5, ⟨⟨⟨?_, ?_⟩, ?_, ?_⟩, hB1.trans hB5⟩⟩
          · rw [lastOf_snoc]; exact Q6.out.1
          · rw [show (((pre ++ [x]).length : Nat) : Int) = (pre.length : Int) + 1 by simp]; exact Q6.out.2
          · exact Boxed.other (Boxed.other (blk_belowA hb5 bR) (by omega) _) (by omega) _
          · exact Boxed.other (Boxed.other (blk_belowA hb5 bC) (by omega) _) (by omega) _
        · have hbad : ((decide ((x : Int) ≤ lastOf pre)) || !(decide (0 ≤ (x : Int) ∧ (x : Int) < 3) && decide (0 < S.st (x : Int).toNat))) = true := by
            rw [Int.toNat_natCast]
            simp
            omega
          have x0 : (0 : Int) ≤ x := by omega
          have hhas : ∀ w', Below W1.heap.size W1 w' → Calls Tryz.prog 58 #[.pointer (some ⟨b2, 0, none⟩), .int .i64 (x : Int)] w' fun e w'' => e = .returned (.bool (decide (0 ≤ (x : Int) ∧ (x : Int) < 3) && decide (0 < S.st (x : Int).toNat))) ∧ w' = w'' := fun w' h => has_any b2 x S w' (F w' h).2.2.1
          generalize hHB : (decide (0 ≤ (x : Int) ∧ (x : Int) < 3) && decide (0 < S.st (x : Int).toNat)) = HB at hbad hhas
          replace F := Lib.hid (fun w' h => ⟨(F w' h).1, (F w' h).2.1⟩ : ∀ w', Below W1.heap.size W1 w' → w'.cell? ⟨X, 0, none⟩ = some (.int .i64 (lastOf pre)) ∧ w'.cell? ⟨w.heap.size, 0, none⟩ = some (.pointer (some ⟨b2, 0, none⟩)))
          have Hg := Lib.hid hg
          clear hHB hs0 hlen hB1 bL bN bR bC hR1 hpx hX1 hbw hB0 bA hg
          have fin : ∀ w5, Below W1.heap.size W1 w5 → w5.cell? ⟨w.heap.size + 1, 0, none⟩ = some (.bool false) ∧ w5.frozen? ⟨w.heap.size + 1, 0, none⟩ = false ∧ KeepsFrom W0.heap.size W1 (w5.setCell ⟨w.heap.size + 1, 0, none⟩ (.bool false)) := fun w5 hb5 => ⟨Boxed.cell (blk_belowA hb5 Hp.out.2.2.2.2.2), Boxed.frozen (blk_belowA hb5 Hp.out.2.2.2.2.2), (keepsFrom_below hb5).trans ((KeepsOthers.setCell _ _ _).from _)⟩
          have Fin := Lib.hid fin
          clear fin
          by_cases hd : (x : Int) ≤ lastOf pre
          · have d0 : decide ((x : Int) ≤ lastOf pre) = true := by simp; omega
            clear hbad hhas
            gi_wp2
            refine region_class_round (fun w' => Below W1.heap.size W1 w') (by kernel_rfl) (by kernel_rfl) (by kernel_rfl) (Below.refl _ _).drew ?_
            iterate 20 (first | ((with_reducible refine q_skip ?_ ?_); exact rfl; simp only [Act.put, List.setIfInBounds_toArray, List.set_cons_succ, List.set_cons_zero]) | ((first | (with_reducible refine q_go0 ?_) | ((with_reducible refine q_go ?_ ?_); exact rfl)); apply Exists.intro; refine ⟨fun w1 hC => ?_, ?_⟩; (have f1 := F.out w1 hC; (go_simp <;> exact rfl)); simp only [Act.put, List.setIfInBounds_toArray, List.set_cons_succ, List.set_cons_zero]))
            refine q_nil ?_
            intro w5 hb5
            obtain ⟨c5, f5, k5⟩ := Fin.out w5 hb5
            have K5 := Lib.hid k5
            clear k5
            gi_wp2
            exact ⟨K5.out, rfl, pre, x, rfl, Hg.out⟩
          · have d0 : decide ((x : Int) ≤ lastOf pre) = false := by simp; omega
            obtain rfl : HB = false := by
              rw [d0] at hbad
              simpa using hbad
            clear hbad
            gi_wp2
            refine region_class_round (fun w' => Below W1.heap.size W1 w') (by kernel_rfl) (by kernel_rfl) (by kernel_rfl) (Below.refl _ _).drew ?_
            iterate 6 (first | ((with_reducible refine q_skip ?_ ?_); exact rfl; simp only [Act.put, List.setIfInBounds_toArray, List.set_cons_succ, List.set_cons_zero]) | ((first | (with_reducible refine q_go0 ?_) | ((with_reducible refine q_go ?_ ?_); exact rfl)); apply Exists.intro; refine ⟨fun w1 hC => ?_, ?_⟩; (have f1 := F.out w1 hC; (go_simp <;> exact rfl)); simp only [Act.put, List.setIfInBounds_toArray, List.set_cons_succ, List.set_cons_zero]))
            ((first | (with_reducible refine q_goC0 ?_) | ((with_reducible refine q_goC ?_ ?_); exact rfl)); apply Exists.intro; refine ⟨fun w1 hC => ?_, ?_⟩; (have f1 := F.out w1 hC; apply Exists.intro; apply Exists.intro; refine ⟨?_, ?_⟩; (go_simp <;> exact ⟨rfl, rfl⟩); exact callC_same (hhas w1 hC) hC); simp only [Act.put, List.setIfInBounds_toArray, List.set_cons_succ, List.set_cons_zero])
            iterate 13 (first | ((with_reducible refine q_skip ?_ ?_); exact rfl; simp only [Act.put, List.setIfInBounds_toArray, List.set_cons_succ, List.set_cons_zero]) | ((first | (with_reducible refine q_go0 ?_) | ((with_reducible refine q_go ?_ ?_); exact rfl)); apply Exists.intro; refine ⟨fun w1 hC => ?_, ?_⟩; (have f1 := F.out w1 hC; (go_simp <;> exact rfl)); simp only [Act.put, List.setIfInBounds_toArray, List.set_cons_succ, List.set_cons_zero]))
            refine q_nil ?_
            intro w5 hb5
            obtain ⟨c5, f5, k5⟩ := Fin.out w5 hb5
            have K5 := Lib.hid k5
            clear k5
            gi_wp2
            exact ⟨K5.out, rfl, pre, x, rfl, Hg.out⟩
      case done =>
        rintro D ys W1 hD rfl ⟨⟨⟨bL, bN⟩, bR, bC⟩, hB1⟩ hK
        clear bL bA
        go_wp2
        go_loopw [12] (fun i wr2 => ∃ (k : Nat) (v : Int), i = .int .i64 (k : Int) ∧ k ≤ 3 ∧ v + (act S k).length = (act S 3).length ∧ Boxed wr2 (X + 1) 3 (.int .i64 v) ∧ (Boxed wr2 w.heap.size 26 (.pointer (some ⟨b2, 0, none⟩)) ∧ Boxed wr2 (w.heap.size + 1) 4 (.bool false)) ∧ Below w.heap.size w wr2 ∧ wr2.heap[D]? = some (.deferred (some []))) (fun i _ => (3 - intOf i).toNat)
        case atStart => exact ⟨0, _, rfl, by omega, by simp [act], bN, ⟨bR, bC⟩, hB1, hK⟩
        case round =>
          clear bN bR bC hB1 hK
          obtain ⟨k, v, rfl, hk, hv, bN, ⟨bR, bC⟩, hB1, hK⟩ := hrel
          have hR1 := blk_below hB1 hR hlt2
          have cN := bN.cell
          have fN := bN.frozen
          have cR := bR.cell
          have cC := bC.cell
          have fC := bC.frozen
          have l3 := act_len S 3
          have lk := act_len S k
          have hz1 := hB1.size
          have hlt3 := bN.lt
          by_cases hk3 : k < 3
          · have x3 : (k : Int) < 3 := by omega
            have hsucc := act_succ S k
            have hs0 := hok.st0 k
            have hhas := has_any b2 k S wr hR1
            have hne2 : v ≤ 3 ∧ -3 ≤ v := by omega
            obtain ⟨v3, v0⟩ := hne2
            have HB := Lib.hid (And.intro bN (And.intro bR (And.intro bC (And.intro hB1 hK))))
            by_cases hs : S.st k = 0
            · have hh : (decide (0 ≤ (k : Int) ∧ (k : Int) < 3) && decide (0 < S.st (k : Int).toNat)) = false := by
                rw [Int.toNat_natCast, hs]; simp
              rw [hh] at hhas
              have hv' : v + (act S (k + 1)).length = (act S 3).length := by rw [hsucc, hs]; simpa using hv
              have Hv := Lib.hid hv'
              clear hh hsucc hv hv' hs hs0 bN bR bC hB1 hK l3 lk
              go_wp2_with (go_at_call 58; refine hhas.mono ?_; clear hhas; rintro e w3 ⟨rfl, rfl⟩)
              go_roundw
              case rel => exact ⟨k + 1, v, by go_num, by omega, Hv.out, HB.out.1, ⟨HB.out.2.1, HB.out.2.2.1⟩, HB.out.2.2.2.1, HB.out.2.2.2.2⟩
              case measure => simp [intOf]; omega
            · have hh : (decide (0 ≤ (k : Int) ∧ (k : Int) < 3) && decide (0 < S.st (k : Int).toNat)) = true := by
                rw [Int.toNat_natCast]; simp; omega
              rw [hh] at hhas
              have hv' : (v - 1) + (act S (k + 1)).length = (act S 3).length := by
                rw [hsucc, bne_iff_ne.2 hs, if_pos rfl, List.length_append, List.length_singleton]; omega
              have Hv := Lib.hid hv'
              clear hh hsucc hv hv' hs hs0 bN bR bC hB1 hK l3 lk
              go_wp2_with (go_at_call 58; refine hhas.mono ?_; clear hhas; rintro e w3 ⟨rfl, rfl⟩)
              go_roundw
              case rel => exact ⟨k + 1, v - 1, by go_num, by omega, Hv.out, HB.out.1.set _, ⟨HB.out.2.1.other (by omega) _, HB.out.2.2.1.other (by omega) _⟩, HB.out.2.2.2.1.setCell (p := ⟨X + 1, 0, none⟩) (by simp; omega) _, (KeepsOthers.setCell _ _ _).same _ _ HB.out.2.2.2.2 rfl⟩
              case measure => simp [intOf]; omega
          · obtain rfl : k = 3 := by omega
            obtain rfl : v = 0 := by omega
            have HB := Lib.hid (And.intro bC (And.intro hB1 hK))
            clear hv bN bR bC hB1 hK hR1 l3 lk
            go_wp2
            obtain ⟨bC, hB1, hK⟩ := HB.out
            refine run_frame_end ((KeepsOthers.setCell _ _ _).same D _ hK rfl) (results_box rfl _ _ rfl Tryz.underlying4 rfl ((bC.set _).kept (grownBy_putObj' _ D _) (fun e => ?_))) ⟨rfl, ?_⟩
            · simp only [Option.some.injEq] at e; omega
            · exact (hB1.setCell (p := ⟨w.heap.size + 1, 0, none⟩) (by simp) _).trans (belowK_b (w := w) (Nat.le_refl _) _ D _ _ (by omega) ((KeepsOthers.setCell _ _ _).same D _ hK rfl) rfl rfl)
      case stop =>
        rintro D c pre W1 hD ⟨k, hk, hpre⟩ ⟨_, q, x, rfl, hng⟩ _
        exact (hng (act_good S k hk q x hpre)).elim
    · have q3 : (k : Int) - 1 ≤ 3 := by omega
      by_cases hno : ((k : Int) - 1 < 0 ∨ 3 ≤ (k : Int) - 1) ∨ S.st ((k : Int) - 1).toNat = 0
      · have p0 : -1 ≤ (k : Int) - 1 := by omega
        have hH : (decide (0 ≤ (k : Int) - 1 ∧ (k : Int) - 1 < 3) && decide (0 < S.st ((k : Int) - 1).toNat)) = false := by
          rcases hno with h | h
          · simp; intro h1 h2; omega
          · rw [h]; simp
        have HH := Lib.hid hH
        clear hH
        obtain ⟨p, hp⟩ : ∃ p : Int, (k : Int) - 1 = p := ⟨_, rfl⟩
        rw [hp] at hno HH q3 p0 ⊢
        have Hp := Lib.hid hp
        have Hno := Lib.hid hno
        clear hno hp
        go_wp2_with (first | (go_at_call 37; refine (of_no b p S Hno.out _ (by assumption)).mono ?_; rintro e w2 ⟨rfl, hb2⟩; replace hBr := blk_belowA hb2 hBr; replace hCr := blk_belowA hb2 hCr; replace hSr := blk_belowA hb2 hSr; replace hRr := blk_belowA hb2 hRr; obtain ⟨hcan, hput⟩ := zcfg_new w2 czero; have Hcan := Lib.hid hcan; have Hput := Lib.hid hput; clear hcan hput; have c4 : (w2.alloc (.cells (cfgL czero).toArray 35)).cell? ⟨w.heap.size, 0, none⟩ = some (.pointer (some ⟨b2, 0, none⟩)) := cell_blk (blk_alloc hBr _) rfl; have hR4 := blk_alloc hRr (.cells (cfgL czero).toArray 35)) | (go_at_call 58; refine (has_any b2 p S _ hR4).mono ?_; rintro e w3 ⟨rfl, rfl⟩; rw [HH.out]) | ((with_reducible refine at_store 35 ?_); refine wpl_put size_cfg Hcan.out Hput.out ?_))
        have hB4 : partAt (w2.alloc (.cells (cfgL czero).toArray 35)) (.pointer (some ⟨w2.heap.size, 0, none⟩)) 19 = some (cfgL czero) := partAt_blk (blk_new _ _) (by simp [cfgL_length]) rfl
        have hS4 := blk_alloc hSr (.cells (cfgL czero).toArray 35)
        have hz2 := hb2.size
        have hb4 : Below W.heap.size W (w2.alloc (.cells (cfgL czero).toArray 35)) := (hb.trans (hb2.mono hz)).alloc (by omega) _
        generalize w2.alloc (.cells (cfgL czero).toArray 35) = w4 at hB4 hS4 hb4 c4 hR4 ⊢
        have cz : ∀ w : World, (binOp .neq 35 (.agg (cfgL czero).toArray) (.agg (cfgL czero).toArray)).run Tryz.prog w = .ok (.bool false) w := fun w => by rw [binop_cfg_neq, cfgEq_refl]; rfl
        have F : ∀ w', Below w4.heap.size w4 w' → partAt w' (.pointer (some ⟨w2.heap.size, 0, none⟩)) 19 = some (cfgL czero) ∧ w'.heap[b]? = some (.cells (slL S).toArray 116 (0, 0)) ∧ w'.cell? ⟨w.heap.size, 0, none⟩ = some (.pointer (some ⟨b2, 0, none⟩)) := fun w' h => ⟨partAt_below hB4 h, blk_belowA h hS4, (h.cell (p := ⟨w.heap.size, 0, none⟩) (cell_lt c4)).trans c4⟩
        refine region_class (fun w' => Below w4.heap.size w4 w') (by kernel_rfl) (by kernel_rfl) (Below.refl _ _).drew ?_
        have Hb4 := Lib.hid (And.intro hb4 (And.intro hb (And.intro hBr (And.intro hCr (And.intro hSr hRr)))))
        replace F := Lib.hid F
        clear hb2 hb4 hB4 hS4 c4 hBr hCr hSr hRr cB hb hS hR hR4
        iterate 29 (first | ((with_reducible refine q_skip ?_ ?_); exact rfl; simp only [Act.put, List.setIfInBounds_toArray, List.set_cons_succ, List.set_cons_zero]) | ((first | (with_reducible refine q_go0 ?_) | ((with_reducible refine q_go ?_ ?_); exact rfl)); apply Exists.intro; refine ⟨fun w1 hC => ?_, ?_⟩; (have f1 := F.out w1 hC; (go_simp <;> exact rfl)); simp only [Act.put, List.setIfInBounds_toArray, List.set_cons_succ, List.set_cons_zero]))
        ((first | (with_reducible refine q_go0 ?_) | ((with_reducible refine q_go ?_ ?_); exact rfl)); refine ⟨.agg (cfgL czero).toArray, fun w1 hC => ?_, ?_⟩; (have f1 := F.out w1 hC; (go_simp <;> exact rfl)); simp only [Act.put, List.setIfInBounds_toArray, List.set_cons_succ, List.set_cons_zero])
        iterate 4 (first | ((with_reducible refine q_skip ?_ ?_); exact rfl; simp only [Act.put, List.setIfInBounds_toArray, List.set_cons_succ, List.set_cons_zero]) | ((first | (with_reducible refine q_go0 ?_) | ((with_reducible refine q_go ?_ ?_); exact rfl)); apply Exists.intro; refine ⟨fun w1 hC => ?_, ?_⟩; (have f1 := F.out w1 hC; (go_simp <;> exact rfl)); simp only [Act.put, List.setIfInBounds_toArray, List.set_cons_succ, List.set_cons_zero]))
        ((first | (with_reducible refine q_goC0 ?_) | ((with_reducible refine q_goC ?_ ?_); exact rfl)); apply Exists.intro; refine ⟨fun w1 hC => ?_, ?_⟩; (have f1 := F.out w1 hC; apply Exists.intro; apply Exists.intro; refine ⟨?_, ?_⟩; (go_simp <;> exact ⟨rfl, rfl⟩); exact callC_same (stamp_no b p S Hno.out w1 f1.2.1) hC); simp only [Act.put, List.setIfInBounds_toArray, List.set_cons_succ, List.set_cons_zero])
        iterate 4 (first | ((with_reducible refine q_skip ?_ ?_); exact rfl; simp only [Act.put, List.setIfInBounds_toArray, List.set_cons_succ, List.set_cons_zero]) | ((first | (with_reducible refine q_go0 ?_) | ((with_reducible refine q_go ?_ ?_); exact rfl)); apply Exists.intro; refine ⟨fun w1 hC => ?_, ?_⟩; (have f1 := F.out w1 hC; (go_simp <;> exact rfl)); simp only [Act.put, List.setIfInBounds_toArray, List.set_cons_succ, List.set_cons_zero]))
        refine q_nil ?_
        intro w5 hb5
        go_wp2
        go_roundw
        case rel => exact ⟨k + 1, congrArg (Value.int .i64) (by have := Hp.out; omega), by omega, Hb4.out.1.trans (hb5.mono Hb4.out.1.size)⟩
        case measure => simp [intOf]; omega
      · obtain ⟨q, hq⟩ : ∃ q : Nat, (k : Int) - 1 = (q : Int) := ⟨k - 1, by omega⟩
        rw [hq] at hno q3 ⊢
        have hq3 : q < 3 := by omega
        have hs : S.st q ≠ 0 := fun e => hno (.inr (by simpa using e))
        have hs0 := hok.st0 q
        have hH : (decide (0 ≤ (q : Int) ∧ (q : Int) < 3) && decide (0 < S.st (q : Int).toNat)) = true := by
          rw [Int.toNat_natCast]; simp; omega
        have HH := Lib.hid hH
        have Hq := Lib.hid hq
        have Hs := Lib.hid hs
        have q0 : (0 : Int) ≤ q := by omega
        have q4 : (q : Int) < 3 := by omega
        clear hH hq hs hno
        go_wp2_with (first | (go_at_call 37; refine (of_in b q hq3 S _ (by assumption) Hs.out).mono ?_; rintro e w2 ⟨rfl, hb2⟩; replace hBr := blk_belowA hb2 hBr; replace hCr := blk_belowA hb2 hCr; replace hSr := blk_belowA hb2 hSr; replace hRr := blk_belowA hb2 hRr; obtain ⟨hcan, hput⟩ := zcfg_new w2 (S.r q); have Hcan := Lib.hid hcan; have Hput := Lib.hid hput; clear hcan hput; have c4 : (w2.alloc (.cells (cfgL (S.r q)).toArray 35)).cell? ⟨w.heap.size, 0, none⟩ = some (.pointer (some ⟨b2, 0, none⟩)) := cell_blk (blk_alloc hBr _) rfl; have hR4 := blk_alloc hRr (.cells (cfgL (S.r q)).toArray 35)) | (go_at_call 58; refine (has_any b2 q S _ hR4).mono ?_; rintro e w3 ⟨rfl, rfl⟩; rw [HH.out]) | ((with_reducible refine at_store 35 ?_); refine wpl_put size_cfg Hcan.out Hput.out ?_))
        have hB4 : partAt (w2.alloc (.cells (cfgL (S.r q)).toArray 35)) (.pointer (some ⟨w2.heap.size, 0, none⟩)) 19 = some (cfgL (S.r q)) := partAt_blk (blk_new _ _) (by simp [cfgL_length]) rfl
        have hS4 := blk_alloc hSr (.cells (cfgL (S.r q)).toArray 35)
        have hz2 := hb2.size
        have hb4 : Below W.heap.size W (w2.alloc (.cells (cfgL (S.r q)).toArray 35)) := (hb.trans (hb2.mono hz)).alloc (by omega) _
        generalize w2.alloc (.cells (cfgL (S.r q)).toArray 35) = w4 at hB4 hS4 hb4 c4 hR4 ⊢
        have cz : ∀ w : World, (binOp .neq 29 (.agg (cfgL (S.r q)).toArray) (.agg (cfgL (S.r q)).toArray)).run Tryz.prog w = .ok (.bool false) w := fun w => by rw [binop_rcfg_neq, cfgEq_refl]; rfl
        have F : ∀ w', Below w4.heap.size w4 w' → partAt w' (.pointer (some ⟨w2.heap.size, 0, none⟩)) 19 = some (cfgL (S.r q)) ∧ w'.heap[b]? = some (.cells (slL S).toArray 116 (0, 0)) ∧ w'.cell? ⟨w.heap.size, 0, none⟩ = some (.pointer (some ⟨b2, 0, none⟩)) ∧ partAt w' (.pointer (some ⟨b2, q * 19, none⟩)) 19 = some (cfgL (S.r q)) ∧ w'.cell? ⟨b2, 57 + q, none⟩ = some (.int .i64 (S.st q)) := fun w' h => ⟨partAt_below hB4 h, blk_belowA h hS4, (h.cell (p := ⟨w.heap.size, 0, none⟩) (cell_lt c4)).trans c4, partAt_below (partAt_blk hR4 (by rw [rslL_length]; omega) (rslL_part S q hq3)) h, cell_blk (blk_belowA h hR4) (rslL_st S q hq3)⟩
        refine region_class (fun w' => Below w4.heap.size w4 w') (by kernel_rfl) (by kernel_rfl) (Below.refl _ _).drew ?_
        have Hb4 := Lib.hid (And.intro hb4 (And.intro hb (And.intro hBr (And.intro hCr (And.intro hSr hRr)))))
        replace F := Lib.hid F
        clear hb2 hb4 hB4 hS4 c4 hBr hCr hSr hRr cB hb hS hR hR4
        iterate 3 (first | ((with_reducible refine q_skip ?_ ?_); exact rfl; simp only [Act.put, List.setIfInBounds_toArray, List.set_cons_succ, List.set_cons_zero]) | ((first | (with_reducible refine q_go0 ?_) | ((with_reducible refine q_go ?_ ?_); exact rfl)); apply Exists.intro; refine ⟨fun w1 hC => ?_, ?_⟩; (have f1 := F.out w1 hC; (go_simp <;> exact rfl)); simp only [Act.put, List.setIfInBounds_toArray, List.set_cons_succ, List.set_cons_zero]))
        ((first | (with_reducible refine q_goC0 ?_) | ((with_reducible refine q_goC ?_ ?_); exact rfl)); apply Exists.intro; refine ⟨fun w1 hC => ?_, ?_⟩; (have f1 := F.out w1 hC; apply Exists.intro; apply Exists.intro; refine ⟨?_, ?_⟩; (go_simp <;> exact ⟨rfl, rfl⟩); exact callC_below (of16_any (S.r q) w1) hC (Nat.le_refl _)); simp only [Act.put, List.setIfInBounds_toArray, List.set_cons_succ, List.set_cons_zero])
        iterate 10 (first | ((with_reducible refine q_skip ?_ ?_); exact rfl; simp only [Act.put, List.setIfInBounds_toArray, List.set_cons_succ, List.set_cons_zero]) | ((first | (with_reducible refine q_go0 ?_) | ((with_reducible refine q_go ?_ ?_); exact rfl)); apply Exists.intro; refine ⟨fun w1 hC => ?_, ?_⟩; (have f1 := F.out w1 hC; (go_simp <;> exact rfl)); simp only [Act.put, List.setIfInBounds_toArray, List.set_cons_succ, List.set_cons_zero]))
        ((first | (with_reducible refine q_goC0 ?_) | ((with_reducible refine q_goC ?_ ?_); exact rfl)); apply Exists.intro; refine ⟨fun w1 hC => ?_, ?_⟩; (have f1 := F.out w1 hC; apply Exists.intro; apply Exists.intro; refine ⟨?_, ?_⟩; (go_simp <;> exact ⟨rfl, rfl⟩); exact callC_same (stamp_in b q hq3 S w1 f1.2.1) hC); simp only [Act.put, List.setIfInBounds_toArray, List.set_cons_succ, List.set_cons_zero])
        iterate 24 (first | ((with_reducible refine q_skip ?_ ?_); exact rfl; simp only [Act.put, List.setIfInBounds_toArray, List.set_cons_succ, List.set_cons_zero]) | ((first | (with_reducible refine q_go0 ?_) | ((with_reducible refine q_go ?_ ?_); exact rfl)); apply Exists.intro; refine ⟨fun w1 hC => ?_, ?_⟩; (have f1 := F.out w1 hC; (go_simp <;> exact rfl)); simp only [Act.put, List.setIfInBounds_toArray, List.set_cons_succ, List.set_cons_zero]))
        refine q_nil ?_
        intro w5 hb5
        go_wp2
        go_roundw
        case rel => exact ⟨k + 1, congrArg (Value.int .i64) (by have := Hq.out; omega), by omega, Hb4.out.1.trans (hb5.mono Hb4.out.1.size)⟩
        case measure => simp [intOf]; omega
end Go.Proofs.YtdeajkopmkdilaaGreat
