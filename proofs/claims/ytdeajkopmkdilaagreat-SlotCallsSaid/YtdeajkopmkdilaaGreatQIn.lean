/- A region that draws its order, walked once in the text's order, in a class of worlds of one's own: callees may make memory; the same in the round of a range over a function. -/
import Derived.Test.YtdeajkopmkdilaaGreatRd
import Derived.Deep.Quiet
import Derived.OrdersIn
import Derived.RangeFuncCalls
open Go Go.RowKit
namespace Go.Proofs.YtdeajkopmkdilaaGreat
variable {P : Program} {ops : Array Oper} {C : World → Prop}
theorem region_class (C : World → Prop) {id : Nat} {Q : Exit → Act → World → Prop} {a : Act} {w : World} {l : List Oper} (hm : P.follows .mixedOrders = true) (hB : Region.lexB .any l.toArray = true) (hC : C w.drew)
    (h : wpQuiet P l.toArray C (fun a' => ∀ w', C w' → Q .normal a' w') l a) : (Code.region id l.toArray true).wp P Q a w :=
  wp_region_quiet (C := C) hm hB hC (by simpa using h)
theorem q_no {Q : Act → Prop} {a : Act} {o : Oper} {rest : List Oper} (hw : Region.wanted o (yielded ops a.tmps) = false) (h : wpQuiet P ops C Q rest (a.put o.dst undef)) : wpQuiet P ops C Q (o :: rest) a := by
  unfold wpQuiet; rw [hw]; exact h
theorem q_val {Q : Act → Prop} {a : Act} {o : Oper} {rest : List Oper} (hw : Region.wanted o (yielded ops a.tmps) = true)
    (h : ∃ v, (∀ w, C w → (execOp a.eval o).run P w = .ok (.value v) w) ∧ wpQuiet P ops C Q rest (a.put o.dst v)) : wpQuiet P ops C Q (o :: rest) a := by
  obtain ⟨v, h1, h2⟩ := h
  unfold wpQuiet; rw [hw, if_pos rfl]
  exact ⟨v, fun w hC => by unfold Oper.quietAt; rw [h1 w hC]; exact ⟨rfl, rfl⟩, h2⟩
theorem q_call {Q : Act → Prop} {a : Act} {o : Oper} {rest : List Oper} (hw : Region.wanted o (yielded ops a.tmps) = true)
    (h : ∃ v, (∀ w, C w → ∃ f args, (execOp a.eval o).run P w = .ok (.enter f args) w ∧ Calls P f args w (fun e w'' => e = .returned v ∧ C w'')) ∧ wpQuiet P ops C Q rest (a.put o.dst v)) : wpQuiet P ops C Q (o :: rest) a := by
  obtain ⟨v, h1, h2⟩ := h
  unfold wpQuiet; rw [hw, if_pos rfl]
  exact ⟨v, fun w hC => by obtain ⟨f, args, e, hc⟩ := h1 w hC; unfold Oper.quietAt; rw [e]; exact ⟨rfl, hc⟩, h2⟩
def isB : Option Value → Bool → Bool
  | some (.bool true), true => true
  | some (.bool false), false => true
  | _, _ => false
theorem wanted_isB {o : Oper} {tmps : Array Value} {j : Nat} {b : Bool} (hg : o.guard = some (j, b)) : Region.wanted o (yielded ops tmps) = isB (((ops[j]?).bind (·.dst)).bind (tmps[·]?)) b := by
  simp only [Region.wanted, yielded, hg]
  generalize ((ops[j]?).bind (·.dst)).bind (tmps[·]?) = x
  cases x with
  | none => simp [isB]
  | some v =>
    cases v with
    | bool y => cases y <;> cases b <;> rfl
    | _ => simp [isB]
theorem q_skip {Q : Act → Prop} {a : Act} {dst : Option Tmp} {op : Op} {tt : TypeId} {ps : String} {af : Array Edge} {j : Nat} {b : Bool} {rest : List Oper}
    (h3 : isB (((ops[j]?).bind (·.dst)).bind (a.tmps[·]?)) b = false) (h : wpQuiet P ops C Q rest (a.put dst undef)) :
    wpQuiet P ops C Q ({ dst := dst, op := op, type := tt, pos := ps, after := af, guard := some (j, b) } :: rest) a :=
  q_no (by rw [wanted_isB rfl]; exact h3) h
theorem q_go {Q : Act → Prop} {a : Act} {dst : Option Tmp} {op : Op} {tt : TypeId} {ps : String} {af : Array Edge} {j : Nat} {b : Bool} {rest : List Oper}
    (h3 : isB (((ops[j]?).bind (·.dst)).bind (a.tmps[·]?)) b = true)
    (h : ∃ v, (∀ w, C w → (execOp a.eval { dst := dst, op := op, type := tt, pos := ps, after := af, guard := some (j, b) }).run P w = .ok (.value v) w) ∧ wpQuiet P ops C Q rest (a.put dst v)) :
    wpQuiet P ops C Q ({ dst := dst, op := op, type := tt, pos := ps, after := af, guard := some (j, b) } :: rest) a :=
  q_val (by rw [wanted_isB rfl]; exact h3) h
theorem q_go0 {Q : Act → Prop} {a : Act} {dst : Option Tmp} {op : Op} {tt : TypeId} {ps : String} {af : Array Edge} {rest : List Oper}
    (h : ∃ v, (∀ w, C w → (execOp a.eval { dst := dst, op := op, type := tt, pos := ps, after := af, guard := none }).run P w = .ok (.value v) w) ∧ wpQuiet P ops C Q rest (a.put dst v)) :
    wpQuiet P ops C Q ({ dst := dst, op := op, type := tt, pos := ps, after := af, guard := none } :: rest) a :=
  q_val rfl h
theorem q_goC {Q : Act → Prop} {a : Act} {dst : Option Tmp} {op : Op} {tt : TypeId} {ps : String} {af : Array Edge} {j : Nat} {b : Bool} {rest : List Oper}
    (h3 : isB (((ops[j]?).bind (·.dst)).bind (a.tmps[·]?)) b = true)
    (h : ∃ v, (∀ w, C w → ∃ f args, (execOp a.eval { dst := dst, op := op, type := tt, pos := ps, after := af, guard := some (j, b) }).run P w = .ok (.enter f args) w ∧ Calls P f args w (fun e w'' => e = .returned v ∧ C w'')) ∧ wpQuiet P ops C Q rest (a.put dst v)) :
    wpQuiet P ops C Q ({ dst := dst, op := op, type := tt, pos := ps, after := af, guard := some (j, b) } :: rest) a :=
  q_call (by rw [wanted_isB rfl]; exact h3) h
theorem q_goC0 {Q : Act → Prop} {a : Act} {dst : Option Tmp} {op : Op} {tt : TypeId} {ps : String} {af : Array Edge} {rest : List Oper}
    (h : ∃ v, (∀ w, C w → ∃ f args, (execOp a.eval { dst := dst, op := op, type := tt, pos := ps, after := af, guard := none }).run P w = .ok (.enter f args) w ∧ Calls P f args w (fun e w'' => e = .returned v ∧ C w'')) ∧ wpQuiet P ops C Q rest (a.put dst v)) :
    wpQuiet P ops C Q ({ dst := dst, op := op, type := tt, pos := ps, after := af, guard := none } :: rest) a :=
  q_call rfl h
theorem callC_same {f : FuncId} {args : Array Value} {w : World} {v : Value} (h : Calls P f args w (fun e w' => e = .returned v ∧ w = w')) (hC : C w) : Calls P f args w (fun e w' => e = .returned v ∧ C w') :=
  h.mono fun _ _ ⟨h1, h2⟩ => ⟨h1, h2 ▸ hC⟩
theorem callC_below {f : FuncId} {args : Array Value} {w w0 : World} {v : Value} {B : Nat} (h : Calls P f args w (fun e w' => e = .returned v ∧ Below w.heap.size w w')) (hC : Below B w0 w) (hB : B ≤ w0.heap.size) : Calls P f args w (fun e w' => e = .returned v ∧ Below B w0 w') :=
  h.mono fun _ _ ⟨h1, h2⟩ => ⟨h1, hC.trans (h2.mono (Nat.le_trans hB hC.size))⟩
theorem q_nil {Q : Act → Prop} {a : Act} (h : Q a) : wpQuiet P ops C Q [] a := h
/-! In a round. -/
def noDefer (ops : Array Oper) : Bool := ops.all fun o => match o.op with | .defer _ => false | _ => true
theorem noDefer_at {ops : Array Oper} (h : noDefer ops = true) {i : Nat} {o : Oper} (hi : ops[i]? = some o) : ∀ c, o.op ≠ .defer c := by
  intro c hc
  have hlt := (Array.getElem?_eq_some_iff.1 hi).1
  have := (Array.all_eq_true.1 h) i hlt
  rw [(Array.getElem?_eq_some_iff.1 hi).2, hc] at this
  cases this
theorem wpOpIn_round {l n i : Nat} {a : Act} {K : Act → Prop} {K' : Act → World → Prop} {Q' : Exit → Act → World → Prop} {w : World} (hnd : noDefer ops = true) (hC : C w)
    (h : ∀ a w', C w' → K a → K' a w') (hh : qOp P ops C i K a) : wpOpIn (Fence.wide.inRound l) n P ops Q' i K' a w := by
  unfold qOp at hh
  unfold wpOpIn
  cases hi : ops[i]? with
  | none => rw [hi] at hh; exact h _ _ hC hh
  | some o =>
    simp only [hi] at hh ⊢
    by_cases hw : Region.wanted o (yielded ops a.tmps) = true
    · simp only [hw, if_true] at hh ⊢
      obtain ⟨v, h1, h2⟩ := hh
      have h3 := h1 w hC
      unfold Oper.quietAt at h3
      unfold Oper.wpIn
      rw [Oper.semAt_eq _ _ _ (noDefer_at hnd hi)]
      refine ⟨fun _ _ => trivial, ?_⟩
      generalize (execOp a.eval o).run P w = r at h3
      cases r with
      | ok x w' =>
        cases x <;> simp only [Oper.quietUpon] at h3
        · obtain ⟨rfl, rfl⟩ := h3; exact h _ _ hC h2
        · obtain ⟨rfl, rfl⟩ := h3; exact h _ _ hC h2
        · obtain ⟨rfl, h4⟩ := h3
          refine ⟨fun hd => (by cases hd), CallsIn.inRound l (callsIn_wide.2 (h4.mono ?_))⟩
          rintro e w'' ⟨rfl, hc⟩
          exact h _ _ hc h2
      | halt x w' => exact h3.elim
    · simp only [hw] at hh ⊢
      exact ⟨fun _ _ => trivial, h _ _ hC hh⟩
theorem wpAnyIn_round {l n : Nat} {md : Region.Mode} {Q : Act → Prop} {Q' : Exit → Act → World → Prop} (hnd : noDefer ops = true) (hQ : ∀ a w, C w → Q a → Q' .normal a w) : ∀ (fuel : Nat) (listed : Array Bool) (a : Act) (w : World), C w →
    wpAnyQ P md ops C Q fuel listed a → wpAnyIn (Fence.wide.inRound l) n P md ops Q' fuel listed a w
  | 0, _, _, _, hw, h => ⟨h.1, hQ _ _ hw h.2⟩
  | fuel + 1, _, _, _, hw, h => ⟨fun h0 => hQ _ _ hw (h.1 h0), fun i hi => wpOpIn_round hnd hw (fun a' w' hw' => wpAnyIn_round hnd hQ fuel _ a' w' hw') (h.2 i hi)⟩
theorem region_class_round (C : World → Prop) {id l n : Nat} {Q : Exit → Act → World → Prop} {a : Act} {w : World} {L : List Oper} (hm : P.follows .mixedOrders = true) (hB : Region.lexB .any L.toArray = true) (hnd : noDefer L.toArray = true) (hC : C w.drew)
    (h : wpQuiet P L.toArray C (fun a' => ∀ w', C w' → Q .normal a' w') L a) : (Code.region id L.toArray true).wpIn (Fence.wide.inRound l) n P Q a w := by
  simp only [Region.lexB, Bool.and_eq_true] at hB
  refine wpIn_region_any hm (wpAnyIn_round (Q := fun a' => ∀ w', C w' → Q .normal a' w') hnd (fun _ w' hw' h => h w' hw') _ _ _ _ hC ?_)
  have := wpAnyQ_lex (C := C) (md := .any) hB.1 L 0 (Array.replicate L.toArray.size false) a (by simp) (by simpa using hB.2) h
  simpa using this
end Go.Proofs.YtdeajkopmkdilaaGreat
