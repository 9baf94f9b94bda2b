/- The library of my own: whole blocks of memory at one operation. Conditions: none. -/
import Derived.WalkKit
import Derived.WalkLawsBesides
import Derived.WalkSpells
import Derived.Lib.Hide
import Derived.Laws.Rows
import Derived.Below
import Derived.StillTailTactics
import Derived.Laws.CopyRow
import Derived.Deep.Draws
open Go Go.RowKit
namespace Go.Proofs.YtdeajkopmkdilaaGreat

theorem ret_bool {a b : Bool} (h : a = b) : Ending.returned (.bool a) = .returned (.bool b) := by rw [h]
theorem ret_int {k : IntKind} {a b : Int} (h : a = b) : Ending.returned (.int k a) = .returned (.int k b) := by rw [h]
theorem bcell {W w1 : World} (hb : Below W.heap.size W w1) : (∀ b o, b < W.heap.size → w1.cell? ⟨b, o, none⟩ = W.cell? ⟨b, o, none⟩) ∧ (∀ b o, b < W.heap.size → w1.frozen? ⟨b, o, none⟩ = W.frozen? ⟨b, o, none⟩) :=
  ⟨fun b o h => hb.cell (p := ⟨b, o, none⟩) h, fun b o h => hb.frozen (p := ⟨b, o, none⟩) h⟩

def aggD : TypeDesc → Bool
  | .struct _ | .array _ _ => true
  | _ => false

theorem add_at (g o j : Nat) : (⟨g, o, none⟩ : Addr).add j = ⟨g, o + j, none⟩ := by
  unfold Addr.add; split <;> simp_all

section
variable {P : Program}
theorem run_loadVar_part (w : World) (g o : Nat) (t ty : TypeId) (l vs : List Value) (fr : Nat × Nat) (d : TypeDesc)
    (hg : w.heap[g]? = some (.cells l.toArray t fr)) (hu : P.underlying ty = some d) (hd : aggD d = true)
    (hi : (P.info? ty).map (·.size) = some vs.length) (hv : ∀ j, j < vs.length → l[o + j]? = vs[j]?) :
    (loadVar ty ⟨g, o, none⟩).run P w = .ok (.agg vs.toArray) w := by
  have hl : (loadCells ⟨g, o, none⟩ vs.length).run P w = .ok vs.toArray w :=
    run_loadCells_list (P := P) w ⟨g, o, none⟩ vs (fun j v h => by
      rw [add_at, cell_of_row w g (o + j) l.toArray t fr hg]
      have hj : j < vs.length := (List.getElem?_eq_some_iff.1 h).1
      rw [← h, ← hv j hj]; simp)
  cases hq : P.info? ty with
  | none => simp [hq] at hi
  | some i =>
    have hs : i.size = vs.length := by simpa [hq] using hi
    have hagg : (isAgg ty).run P w = .ok true w := by
      unfold isAgg
      rw [Sem.run_bind, run_underlying hu w]
      cases d <;> simp_all [aggD]
    simp [loadVar, Sem.run_bind, hagg, sizeOf, typeInfo, hq, hs, hl]

theorem wpList_want {ops : Array Oper} {rest : List Oper} {o : Oper} {a : Act} {w : World} {Q : Exit → Act → World → Prop}
    (hw : Region.wanted o (yielded ops a.tmps) = true) (h : o.wp P a w (wpList P ops Q rest) Q) : wpList P ops Q (o :: rest) a w := by
  unfold wpList
  rw [if_pos hw]
  exact .inl h

/-! To know an operation by its form alone. -/
theorem at_load (ty : TypeId) {ops : Array Oper} {rest : List Oper} {dst : Option Tmp} {tt : TypeId} {x : Operand} {ps : String} {af : Array Edge} {a : Act} {w : World} {Q : Exit → Act → World → Prop} (h : wpList P ops Q ({ dst := dst, op := .load ty x, type := tt, pos := ps, after := af, guard := none } :: rest) a w) : wpList P ops Q ({ dst := dst, op := .load ty x, type := tt, pos := ps, after := af, guard := none } :: rest) a w := h
theorem at_loadG (ty : TypeId) {ops : Array Oper} {rest : List Oper} {dst : Option Tmp} {tt : TypeId} {x : Operand} {ps : String} {af : Array Edge} {gd : Nat × Bool} {a : Act} {w : World} {Q : Exit → Act → World → Prop} (h : wpList P ops Q ({ dst := dst, op := .load ty x, type := tt, pos := ps, after := af, guard := some gd } :: rest) a w) : wpList P ops Q ({ dst := dst, op := .load ty x, type := tt, pos := ps, after := af, guard := some gd } :: rest) a w := h
theorem at_store (ty : TypeId) {ops : Array Oper} {rest : List Oper} {dst : Option Tmp} {tt : TypeId} {x y : Operand} {ps : String} {af : Array Edge} {a : Act} {w : World} {Q : Exit → Act → World → Prop} (h : wpList P ops Q ({ dst := dst, op := .store ty x y, type := tt, pos := ps, after := af, guard := none } :: rest) a w) : wpList P ops Q ({ dst := dst, op := .store ty x y, type := tt, pos := ps, after := af, guard := none } :: rest) a w := h
/-- A part of a block (a struct, an array), loaded whole. -/
theorem wpl_load {ops : Array Oper} {rest : List Oper} {dst : Option Tmp} {ty tt : TypeId} {x : Operand} {ps : String} {af : Array Edge} {a : Act} {w : World} {Q : Exit → Act → World → Prop}
    {g o : Nat} (hx : a.eval x = .pointer (some ⟨g, o, none⟩)) {d : TypeDesc} (hu : P.underlying ty = some d) (hd : aggD d = true)
    {t : TypeId} {l vs : List Value} {fr : Nat × Nat} {n : Nat} (hi : (P.info? ty).map (·.size) = some n) (hn : vs.length = n)
    (hg : w.heap[g]? = some (.cells l.toArray t fr)) (hv : ∀ j, j < vs.length → l[o + j]? = vs[j]?)
    (h : wpList P ops Q rest (a.put dst (.agg vs.toArray)) w) :
    wpList P ops Q ({ dst := dst, op := .load ty x, type := tt, pos := ps, after := af, guard := none } :: rest) a w := by
  subst hn
  refine wpList_want rfl ?_
  unfold Oper.wp execOp
  simp only [hx, Instr.loadAt, Instr.sureAddr, Sem.run_bind, Sem.run_pure, Result.andThen_ok, run_loadVar_part w g o t ty l vs fr d hg hu hd hi hv]
  exact h

/-- A part of a block (a struct, an array), loaded whole. -/
theorem wpl_loadG {ops : Array Oper} {rest : List Oper} {dst : Option Tmp} {ty tt : TypeId} {x : Operand} {ps : String} {af : Array Edge} {j : Nat} {b : Bool} {a : Act} {w : World} {Q : Exit → Act → World → Prop}
    {d : Tmp} (hw : (ops[j]?).bind (·.dst) = some d) (hw2 : a.tmps[d]? = some (.bool b))
    {g o : Nat} (hx : a.eval x = .pointer (some ⟨g, o, none⟩)) {td : TypeDesc} (hu : P.underlying ty = some td) (hd : aggD td = true)
    {t : TypeId} {l vs : List Value} {fr : Nat × Nat} {n : Nat} (hi : (P.info? ty).map (·.size) = some n) (hn : vs.length = n)
    (hg : w.heap[g]? = some (.cells l.toArray t fr)) (hv : ∀ j, j < vs.length → l[o + j]? = vs[j]?)
    (h : wpList P ops Q rest (a.put dst (.agg vs.toArray)) w) :
    wpList P ops Q ({ dst := dst, op := .load ty x, type := tt, pos := ps, after := af, guard := some (j, b) } :: rest) a w := by
  subst hn
  refine wpList_want (by simp [Region.wanted, yielded, hw, hw2]) ?_
  unfold Oper.wp execOp
  simp only [hx, Instr.loadAt, Instr.sureAddr, Sem.run_bind, Sem.run_pure, Result.andThen_ok, run_loadVar_part w g o t ty l vs fr td hg hu hd hi hv]
  exact h

/-- The same in the head of a region that draws its order. -/
theorem st_load {ops : Array Oper} {rest : List Oper} {dst : Option Tmp} {ty tt : TypeId} {x : Operand} {ps : String} {af : Array Edge} {a : Act} {w : World} {Q : Act → Prop}
    {g o : Nat} (hx : a.eval x = .pointer (some ⟨g, o, none⟩)) {d : TypeDesc} (hu : P.underlying ty = some d) (hd : aggD d = true)
    {t : TypeId} {l vs : List Value} {fr : Nat × Nat} {n : Nat} (hi : (P.info? ty).map (·.size) = some n) (hn : vs.length = n)
    (hg : w.heap[g]? = some (.cells l.toArray t fr)) (hv : ∀ j, j < vs.length → l[o + j]? = vs[j]?)
    (h : wpStill P ops w Q rest (a.put dst (.agg vs.toArray))) :
    wpStill P ops w Q ({ dst := dst, op := .load ty x, type := tt, pos := ps, after := af, guard := none } :: rest) a := by
  subst hn
  refine wpStill_step fun K hK => ?_
  simp only [Region.wanted, if_true]
  unfold Oper.still execOp
  simp only [hx, Instr.loadAt, Instr.sureAddr, Sem.run_bind, Sem.run_pure, Result.andThen_ok, run_loadVar_part w g o t ty l vs fr d hg hu hd hi hv, Oper.stillUpon]
  exact ⟨trivial, hK _ h⟩
theorem at_stload (ty : TypeId) {ops : Array Oper} {rest : List Oper} {dst : Option Tmp} {tt : TypeId} {x : Operand} {ps : String} {af : Array Edge} {a : Act} {w : World} {Q : Act → Prop} (h : wpStill P ops w Q ({ dst := dst, op := .load ty x, type := tt, pos := ps, after := af, guard := none } :: rest) a) : wpStill P ops w Q ({ dst := dst, op := .load ty x, type := tt, pos := ps, after := af, guard := none } :: rest) a := h
/-- A struct or an array, built of parts. -/
theorem wpl_build {ops : Array Oper} {rest : List Oper} {dst : Option Tmp} {ty tt : TypeId} {parts : Array (Nat × Operand)} {ps : String} {af : Array Edge} {a : Act} {w : World} {Q : Exit → Act → World → Prop}
    {pv : List (Nat × Value)} (hp : (parts.toList.map fun (i, x) => (i, a.eval x)) = pv) {vs : List Value} (hb : P.built ty pv = some vs.toArray)
    (h : wpList P ops Q rest (a.put dst (.agg vs.toArray)) w) :
    wpList P ops Q ({ dst := dst, op := .build ty parts, type := tt, pos := ps, after := af, guard := none } :: rest) a w := by
  rw [← Array.toList_map] at hp
  refine wpList_want rfl ?_
  refine wp_build ty parts rfl (by rw [hp, hb]; rfl) ?_
  rw [hp, hb]; exact h
theorem at_build (ty : TypeId) {ops : Array Oper} {rest : List Oper} {dst : Option Tmp} {tt : TypeId} {parts : Array (Nat × Operand)} {ps : String} {af : Array Edge} {a : Act} {w : World} {Q : Exit → Act → World → Prop}
    (h : wpList P ops Q ({ dst := dst, op := .build ty parts, type := tt, pos := ps, after := af, guard := none } :: rest) a w) : wpList P ops Q ({ dst := dst, op := .build ty parts, type := tt, pos := ps, after := af, guard := none } :: rest) a w := h
theorem st_build {ops : Array Oper} {rest : List Oper} {dst : Option Tmp} {ty tt : TypeId} {parts : Array (Nat × Operand)} {ps : String} {af : Array Edge} {a : Act} {w : World} {Q : Act → Prop}
    {pv : List (Nat × Value)} (hp : (parts.toList.map fun (i, x) => (i, a.eval x)) = pv) {vs : List Value} (hb : P.built ty pv = some vs.toArray)
    (h : wpStill P ops w Q rest (a.put dst (.agg vs.toArray))) :
    wpStill P ops w Q ({ dst := dst, op := .build ty parts, type := tt, pos := ps, after := af, guard := none } :: rest) a := by
  rw [← Array.toList_map] at hp
  subst hp
  refine wpStill_step fun K hK => ?_
  simp only [Region.wanted, if_true]
  unfold Oper.still execOp
  simp only [Sem.run_bind, run_build w ty _ _ hb, Result.andThen_ok, Sem.run_pure, Oper.stillUpon]
  exact ⟨trivial, hK _ h⟩
theorem at_stbuild (ty : TypeId) {ops : Array Oper} {rest : List Oper} {dst : Option Tmp} {tt : TypeId} {parts : Array (Nat × Operand)} {ps : String} {af : Array Edge} {a : Act} {w : World} {Q : Act → Prop}
    (h : wpStill P ops w Q ({ dst := dst, op := .build ty parts, type := tt, pos := ps, after := af, guard := none } :: rest) a) : wpStill P ops w Q ({ dst := dst, op := .build ty parts, type := tt, pos := ps, after := af, guard := none } :: rest) a := h

/-- A list with a part written over. -/
def splice (l : List Value) (o : Nat) (vs : List Value) : List Value := l.take o ++ vs ++ l.drop (o + vs.length)

theorem splice_length (l : List Value) (o : Nat) (vs : List Value) (h : o + vs.length ≤ l.length) : (splice l o vs).length = l.length := by
  simp [splice]; omega

theorem run_storeCells_part (g o : Nat) (t : TypeId) : ∀ (vs : List Value) (i : Nat) (l : List Value) (w : World),
    w.heap[g]? = some (.cells l.toArray t (0, 0)) → o + i + vs.length ≤ l.length → (∀ v ∈ vs, v.oneCell' = true) →
    (storeCells ⟨g, o, none⟩ vs i).run P w = .ok () (w.setRow g (splice l (o + i) vs).toArray)
  | [], i, l, w, hg, hl, _ => by
    simp only [storeCells, splice, List.append_nil, List.length_nil, Nat.add_zero, List.take_append_drop]
    rw [setRow_self w g l.toArray t (0, 0) hg]; rfl
  | v :: rest, i, l, w, hg, hl, h1 => by
    have hi : o + i < l.length := by simp at hl; omega
    have hcell : w.cell? ⟨g, o + i, none⟩ = some l[o + i] := by simp [World.cell?, hg, hi]
    have hfro : w.frozen? ⟨g, o + i, none⟩ = false := by simp [World.frozen?, hg]
    have hst : (store ((⟨g, o, none⟩ : Addr).add i) v).run P w = .ok () (w.setRow g (l.set (o + i) v).toArray) := by
      rw [add_at, run_store P w _ v _ (h1 v (by simp)), hcell]
      simp [hfro, setCell_eq_setRow w g (o + i) l.toArray t (0, 0) v hg]
    have hg' : (w.setRow g (l.set (o + i) v).toArray).heap[g]? = some (.cells (l.set (o + i) v).toArray t (0, 0)) := setRow_heap w g _ _ t _ hg
    have ih := run_storeCells_part g o t rest (i + 1) (l.set (o + i) v) _ hg' (by simp at hl ⊢; omega) (fun x hx => h1 x (by simp [hx]))
    simp only [storeCells, Sem.run_bind, hst, Result.andThen_ok, ih, setRow_setRow]
    congr 3
    simp only [splice]
    apply List.ext_getElem?
    intro k
    simp only [List.getElem?_append, List.length_take, List.length_append, List.length_cons, List.getElem?_take, List.getElem?_drop, List.length_set, List.getElem?_set]
    grind

theorem run_storeVar_part (w : World) (g o : Nat) (t ty : TypeId) (l vs : List Value) (hg : w.heap[g]? = some (.cells l.toArray t (0, 0)))
    (hi : (P.info? ty).map (·.size) = some vs.length) (hs : o + vs.length ≤ l.length) (h1 : vs.all (·.oneCell') = true) :
    (storeVar ty ⟨g, o, none⟩ (.agg vs.toArray)).run P w = .ok () (w.setRow g (splice l o vs).toArray) := by
  have := run_storeCells_part (P := P) g o t vs 0 l w hg (by omega) (fun v hv => (List.all_eq_true.1 h1) v hv)
  cases hq : P.info? ty with
  | none => simp [hq] at hi
  | some i =>
    have hs : vs.length = i.size := by simp [hq] at hi; omega
    simp [storeVar, sizeOf, typeInfo, hq, Value.cells, hs] at this ⊢
    exact this

/-- A part of a block, stored whole. -/
theorem wpl_store {ops : Array Oper} {rest : List Oper} {dst : Option Tmp} {ty tt : TypeId} {x y : Operand} {ps : String} {af : Array Edge} {a : Act} {w : World} {Q : Exit → Act → World → Prop}
    {g o : Nat} (hx : a.eval x = .pointer (some ⟨g, o, none⟩)) {vs : List Value} (hy : a.eval y = .agg vs.toArray)
    {t : TypeId} {l : List Value} {n : Nat} (hi : (P.info? ty).map (·.size) = some n) (hn : vs.length = n)
    (hg : w.heap[g]? = some (.cells l.toArray t (0, 0))) (hs : o + vs.length ≤ l.length) (h1 : vs.all (·.oneCell') = true)
    (h : wpList P ops Q rest (a.put dst undef) (w.setRow g (splice l o vs).toArray)) :
    wpList P ops Q ({ dst := dst, op := .store ty x y, type := tt, pos := ps, after := af, guard := none } :: rest) a w := by
  subst hn
  refine wpList_want rfl ?_
  unfold Oper.wp execOp
  simp only [hx, hy, Instr.storeAt, Instr.sureAddr, Sem.run_bind, Sem.run_pure, Result.andThen_ok, run_storeVar_part w g o t ty l vs hg hi hs h1]
  exact h
/-- The same as one step of a region that draws its order. -/
theorem step_store {ops : Array Oper} {dst : Option Tmp} {ty tt : TypeId} {x y : Operand} {ps : String} {af : Array Edge} {a : Act} {w : World} {K : Act → World → Prop} {Q : Exit → Act → World → Prop} {E : Prop}
    {g o : Nat} (hx : a.eval x = .pointer (some ⟨g, o, none⟩)) {vs : List Value} (hy : a.eval y = .agg vs.toArray)
    {t : TypeId} {l : List Value} {n : Nat} (hi : (P.info? ty).map (·.size) = some n) (hn : vs.length = n)
    (hg : w.heap[g]? = some (.cells l.toArray t (0, 0))) (hs : o + vs.length ≤ l.length) (h1 : vs.all (·.oneCell') = true)
    (h : K (a.put dst undef) (w.setRow g (splice l o vs).toArray)) :
    if Region.wanted { dst := dst, op := .store ty x y, type := tt, pos := ps, after := af, guard := none } (yielded ops a.tmps) = true then Oper.wp P { dst := dst, op := .store ty x y, type := tt, pos := ps, after := af, guard := none } a w K Q else E := by
  subst hn
  rw [if_pos (show Region.wanted { dst := dst, op := .store ty x y, type := tt, pos := ps, after := af, guard := none } (yielded ops a.tmps) = true from rfl)]
  unfold Oper.wp execOp
  simp only [hx, hy, Instr.storeAt, Instr.sureAddr, Sem.run_bind, Sem.run_pure, Result.andThen_ok, run_storeVar_part w g o t ty l vs hg hi hs h1]
  exact h
end

theorem splice_full (l vs : List Value) (h : vs.length = l.length) : splice l 0 vs = vs := by
  simp [splice, h]

theorem results_agg_tmp {P : Program} {fn : Func} {p u : Tmp} {ty : TypeId} (h : fn.results = #[.cell p ty, .tmp u]) (tmps : Array Value) (w : World) {g o : Nat} (hp : tmps.getD p undef = .pointer (some ⟨g, o, none⟩))
    {d : TypeDesc} (hu : P.underlying ty = some d) (hd : aggD d = true) {t : TypeId} {l vs : List Value} {fr : Nat × Nat} {n : Nat} (hi : (P.info? ty).map (·.size) = some n) (hn : vs.length = n)
    {v : Value} (hu2 : tmps.getD u undef = v) (hg : w.heap[g]? = some (.cells l.toArray t fr)) (hv : ∀ j, j < vs.length → l[o + j]? = vs[j]?) :
    (results fn tmps).run P w = .ok (.tuple #[.agg vs.toArray, v]) w := by
  subst hn
  have hu' : tmps[u]?.getD undef = v := by simpa using hu2
  have hp' : tmps[p]?.getD undef = .pointer (some ⟨g, o, none⟩) := by simpa using hp
  simp [results, h, hp', hu', asAddr, run_loadVar_part w g o t ty l vs fr d hg hu hd hi hv]
theorem results_agg {P : Program} {fn : Func} {p : Tmp} {ty : TypeId} (h : fn.results = #[.cell p ty]) (tmps : Array Value) (w : World) {g o : Nat} (hp : tmps.getD p undef = .pointer (some ⟨g, o, none⟩))
    {d : TypeDesc} (hu : P.underlying ty = some d) (hd : aggD d = true) {t : TypeId} {l vs : List Value} {fr : Nat × Nat} {n : Nat} (hi : (P.info? ty).map (·.size) = some n) (hn : vs.length = n)
    (hg : w.heap[g]? = some (.cells l.toArray t fr)) (hv : ∀ j, j < vs.length → l[o + j]? = vs[j]?) :
    (results fn tmps).run P w = .ok (.agg vs.toArray) w := by
  subst hn
  have hp' : tmps[p]?.getD undef = .pointer (some ⟨g, o, none⟩) := by simpa using hp
  simp [results, h, hp', asAddr, run_loadVar_part w g o t ty l vs fr d hg hu hd hi hv]

section
variable {P : Program}
theorem run_part1 {t : TypeId} {d : TypeDesc} (hu : P.underlying t = some d) (hd : aggD d = false) {l : List Value} {i : Nat} {v : Value} (h : l[i]? = some v) (w : World) : (part t l.toArray i).run P w = .ok v w := by
  have hagg : (isAgg t).run P w = .ok false w := by
    unfold isAgg
    rw [Sem.run_bind, run_underlying hu w]
    cases d <;> simp_all [aggD]
  simp [part, Sem.run_bind, hagg, h]
theorem run_partA {t : TypeId} {d : TypeDesc} (hu : P.underlying t = some d) (hd : aggD d = true) {n : Nat} (hi : (P.info? t).map (·.size) = some n) (l : List Value) (i : Nat) (w : World) : (part t l.toArray i).run P w = .ok (.agg ((l.drop i).take n).toArray) w := by
  have hagg : (isAgg t).run P w = .ok true w := by
    unfold isAgg
    rw [Sem.run_bind, run_underlying hu w]
    cases d <;> simp_all [aggD]
  cases hq : P.info? t with
  | none => simp [hq] at hi
  | some j =>
    have hs : j.size = n := by simpa [hq] using hi
    simp [part, Sem.run_bind, hagg, sizeOf, typeInfo, hq, hs, List.extract_eq_take_drop]
end

/-- The cells behind a pointer. -/
def partAt (w : World) (v : Value) (n : Nat) : Option (List Value) :=
  match v with
  | .pointer (some ⟨g, o, none⟩) =>
    match w.heap[g]? with
    | some (.cells l _ _) => if o + n ≤ l.size then some ((l.toList.drop o).take n) else none
    | _ => none
  | _ => none
theorem partAt_blk {w : World} {g o n : Nat} {l vs : List Value} {t : TypeId} {fr : Nat × Nat} (h : w.heap[g]? = some (.cells l.toArray t fr)) (hs : o + n ≤ l.length) (hv : (l.drop o).take n = vs) : partAt w (.pointer (some ⟨g, o, none⟩)) n = some vs := by
  simp [partAt, h, hs, hv]
theorem exec_load {P : Program} {ty : TypeId} {d : TypeDesc} (hu : P.underlying ty = some d) (hd : aggD d = true) {n : Nat} (hi : (P.info? ty).map (·.size) = some n)
    (ev : Operand → Value) (dst : Option Tmp) (x : Operand) (tt : TypeId) (ps : String) (af : Array Edge) (gd : Option (Nat × Bool)) (w : World) (h : (partAt w (ev x) n).isSome = true) :
    (execOp ev { dst := dst, op := .load ty x, type := tt, pos := ps, after := af, guard := gd }).run P w = .ok (.value (.agg ((partAt w (ev x) n).getD []).toArray)) w := by
  unfold partAt at h ⊢
  split at h
  · rename_i g o hx
    split at h
    · rename_i l t fr hg
      split at h
      · rename_i hs
        have hg' : w.heap[g]? = some (.cells l.toList.toArray t fr) := by simpa using hg
        have hr := run_loadVar_part (P := P) w g o t ty l.toList ((l.toList.drop o).take n) fr d hg' hu hd (by rw [hi]; simp; omega) (fun j hj => by
          simp only [List.length_take, List.length_drop] at hj
          rw [List.getElem?_take_of_lt (by omega), List.getElem?_drop])
        unfold execOp
        simp only [hx, Instr.loadAt, Instr.sureAddr, Sem.run_bind, Sem.run_pure, Result.andThen_ok, hr, hg, hs, if_true, Option.getD_some]
      · simp at h
    · simp at h
  · simp at h

/-- How many cells a block has that may be written. -/
def okBlk (w : World) (g : Nat) : Option Nat :=
  match w.heap[g]? with
  | some (.cells l _ (0, 0)) => some l.size
  | _ => none
theorem okBlk_blk {w : World} {g : Nat} {l : List Value} {t : TypeId} (h : w.heap[g]? = some (.cells l.toArray t (0, 0))) : okBlk w g = some l.length := by simp [okBlk, h]
theorem okBlk_some {w : World} {g n : Nat} (h : okBlk w g = some n) : ∃ (l : List Value) (t : TypeId), l.length = n ∧ w.heap[g]? = some (.cells l.toArray t (0, 0)) := by
  unfold okBlk at h
  split at h
  · rename_i l t hg
    exact ⟨l.toList, t, by simpa using h, by simpa using hg⟩
  · cases h
def canPut (w : World) (v u : Value) (n : Nat) : Bool :=
  match v, u with
  | .pointer (some ⟨g, o, none⟩), .agg cs =>
    match okBlk w g with
    | some sz => decide (o + n ≤ sz) && (decide (cs.size = n) && cs.all (·.oneCell'))
    | none => false
  | _, _ => false
def putAt (w : World) (v u : Value) : World :=
  match v, u with
  | .pointer (some ⟨g, o, none⟩), .agg cs =>
    match w.heap[g]? with
    | some (.cells l _ _) => w.setRow g (splice l.toList o cs.toList).toArray
    | _ => w
  | _, _ => w
theorem canPut_eq (w : World) (g o n : Nat) (cs : Array Value) : canPut w (.pointer (some ⟨g, o, none⟩)) (.agg cs) n = (match okBlk w g with
    | some sz => decide (o + n ≤ sz) && (decide (cs.size = n) && cs.all (·.oneCell'))
    | none => false) := rfl
theorem canPut_at (w : World) (g o n : Nat) (cs : Array Value) {sz : Nat} (h : okBlk w g = some sz) : canPut w (.pointer (some ⟨g, o, none⟩)) (.agg cs) n = (decide (o + n ≤ sz) && (decide (cs.size = n) && cs.all (·.oneCell'))) := by
  simp [canPut, h]
theorem putAt_blk {w : World} {g o : Nat} {l vs : List Value} {t : TypeId} {fr : Nat × Nat} (h : w.heap[g]? = some (.cells l.toArray t fr)) : putAt w (.pointer (some ⟨g, o, none⟩)) (.agg vs.toArray) = w.setRow g (splice l o vs).toArray := by
  simp [putAt, h]
theorem exec_store {P : Program} {ty : TypeId} {n : Nat} (hi : (P.info? ty).map (·.size) = some n)
    (ev : Operand → Value) (dst : Option Tmp) (x y : Operand) (tt : TypeId) (ps : String) (af : Array Edge) (gd : Option (Nat × Bool)) (w : World) (h : canPut w (ev x) (ev y) n = true) :
    (execOp ev { dst := dst, op := .store ty x y, type := tt, pos := ps, after := af, guard := gd }).run P w = .ok .skip (putAt w (ev x) (ev y)) := by
  unfold canPut at h
  split at h
  · rename_i g o cs hx hy
    split at h
    · rename_i sz hsz
      obtain ⟨l, t, hl, hg⟩ := okBlk_some hsz
      rw [Bool.and_eq_true, Bool.and_eq_true, decide_eq_true_eq, decide_eq_true_eq] at h
      obtain ⟨h1, h2, h3⟩ := h
      have hr := run_storeVar_part (P := P) w g o t ty l cs.toList hg (by rw [hi]; simp [h2]) (by simp; omega) (by simpa using h3)
      have hp := putAt_blk (o := o) (vs := cs.toList) hg
      simp only [Array.toArray_toList] at hr hp
      unfold execOp
      simp only [hx, hy, hp, Instr.storeAt, Instr.sureAddr, Sem.run_bind, Sem.run_pure, Result.andThen_ok, hr]
    · cases h
  · cases h

/-- An element of an array that is no one cell. -/
def aggAt (v u : Value) (len n : Nat) : Option (List Value) :=
  match v, u with
  | .agg cs, .int _ i => if 0 ≤ i ∧ i < (len : Int) then some ((cs.toList.drop (i.toNat * n)).take n) else none
  | _, _ => none
theorem exec_index {P : Program} {ty el : TypeId} {len n : Nat} {d : TypeDesc} (ht : P.underlying ty = some (.array len el)) (hu : P.underlying el = some d) (hd : aggD d = true) (hi : (P.info? el).map (·.size) = some n)
    (ev : Operand → Value) (dst : Option Tmp) (x y : Operand) (tt : TypeId) (ps : String) (af : Array Edge) (gd : Option (Nat × Bool)) (w : World) (h : (aggAt (ev x) (ev y) len n).isSome = true) :
    (execOp ev { dst := dst, op := .index ty x y, type := tt, pos := ps, after := af, guard := gd }).run P w = .ok (.value (.agg ((aggAt (ev x) (ev y) len n).getD []).toArray)) w := by
  unfold aggAt at h ⊢
  split at h
  · rename_i cs k i hx hy
    split at h
    · rename_i hb
      have hp := run_partA (P := P) hu hd hi cs.toList (i.toNat * n) w
      rw [Array.toArray_toList] at hp
      cases hq : P.info? el with
      | none => simp [hq] at hi
      | some j =>
        have hs : j.size = n := by simpa [hq] using hi
        unfold execOp
        simp [hx, hy, Instr.index, asIntOf, run_underlying ht, hb, sizeOf, typeInfo, hq, hs, hp]
    · simp at h
  · simp at h

/-! ### Facts on whole blocks -/
theorem blk_lt {w : World} {g : Nat} {o : Obj} (h : w.heap[g]? = some o) : g < w.heap.size := (Array.getElem?_eq_some_iff.1 h).1
theorem blk_new (w : World) (o : Obj) : (w.alloc o).heap[w.heap.size]? = some o := heap_alloc_new w o
theorem blk_alloc {w : World} {g : Nat} {o : Obj} (h : w.heap[g]? = some o) (x : Obj) : (w.alloc x).heap[g]? = some o := by
  rw [Below.heap_alloc w x g (blk_lt h)]; exact h
theorem blk_row {w : World} {g : Nat} {l : Array Value} {t : TypeId} {fr : Nat × Nat} (h : w.heap[g]? = some (.cells l t fr)) (l' : Array Value) : (w.setRow g l').heap[g]? = some (.cells l' t fr) := setRow_heap w g l l' t fr h
theorem blk_row_other {w : World} {g k : Nat} {o : Obj} (h : w.heap[k]? = some o) (hne : k ≠ g) (l' : Array Value) : (w.setRow g l').heap[k]? = some o := by
  rw [setRow_other w g k l' hne]; exact h
theorem blk_below {B : Nat} {w w' : World} (hb : Below B w w') {g : Nat} {o : Obj} (h : w.heap[g]? = some o) (hlt : g < B) : w'.heap[g]? = some o := by
  rw [hb.block g hlt]; exact h
theorem blk_belowA {w w' : World} (hb : Below w.heap.size w w') {g : Nat} {o : Obj} (h : w.heap[g]? = some o) : w'.heap[g]? = some o := blk_below hb h (blk_lt h)
theorem blk_setCell {w : World} {g i : Nat} {l : List Value} {t : TypeId} {fr : Nat × Nat} (h : w.heap[g]? = some (.cells l.toArray t fr)) (v : Value) : (w.setCell ⟨g, i, none⟩ v).heap[g]? = some (.cells (l.set i v).toArray t fr) := by
  rw [setCell_eq_setRow w g i l.toArray t fr v h, setRow_heap w g _ _ t fr h]; simp
theorem blk_setCell_other {w : World} {g k i : Nat} {o : Obj} (h : w.heap[k]? = some o) (hne : k ≠ g) (v : Value) : (w.setCell ⟨g, i, none⟩ v).heap[k]? = some o := by
  rw [Below.heap_setCell w ⟨g, i, none⟩ v k hne]; exact h
theorem blk_drew {w : World} {g : Nat} {o : Obj} (h : w.heap[g]? = some o) : w.drew.heap[g]? = some o := h
theorem blk_drewN {w : World} {g n : Nat} {o : Obj} (h : w.heap[g]? = some o) : (w.drewN n).heap[g]? = some o := h
theorem cell_blk {w : World} {g j : Nat} {l : List Value} {t : TypeId} {fr : Nat × Nat} (h : w.heap[g]? = some (.cells l.toArray t fr)) {v : Value} (hv : l[j]? = some v) : w.cell? ⟨g, j, none⟩ = some v := by
  rw [cell_of_row w g j _ t fr h]; simpa using hv
theorem frozen_blk {w : World} {g j : Nat} {l : Array Value} {t : TypeId} (h : w.heap[g]? = some (.cells l t (0, 0))) : w.frozen? ⟨g, j, none⟩ = false := by
  simp [World.frozen?, h]
theorem below_setRow {B : Nat} {a w : World} (h : Below B a w) {g : Nat} (hg : B ≤ g) (l : Array Value) : Below B a (w.setRow g l) :=
  h.trans ⟨rfl, rfl, rfl, by simp, fun k hk => setRow_other w g k l (by omega)⟩
/-- But for one block nothing of what was there has turned. -/
structure But (g : Nat) (w w' : World) : Prop where
  os : w'.os = w.os
  tape : w'.tape = w.tape
  output : w'.output = w.output
  size : w.heap.size ≤ w'.heap.size
  block : ∀ k, k < w.heap.size → k ≠ g → w'.heap[k]? = w.heap[k]?
theorem But.refl (g : Nat) (w : World) : But g w w := ⟨rfl, rfl, rfl, Nat.le_refl _, fun _ _ _ => rfl⟩
theorem But.trans {g : Nat} {a b c : World} (h : But g a b) (k : But g b c) : But g a c :=
  ⟨k.os.trans h.os, k.tape.trans h.tape, k.output.trans h.output, Nat.le_trans h.size k.size, fun i hi hn => (k.block i (Nat.lt_of_lt_of_le hi h.size) hn).trans (h.block i hi hn)⟩
theorem But.of_below {g : Nat} {a b : World} (h : Below a.heap.size a b) : But g a b := ⟨h.os, h.tape, h.output, h.size, fun i hi _ => h.block i hi⟩
theorem But.setRow {g : Nat} {a w : World} (h : But g a w) (l : Array Value) : But g a (w.setRow g l) :=
  h.trans ⟨rfl, rfl, rfl, by simp, fun k _ hn => setRow_other w g k l hn⟩
theorem But.setCell {g : Nat} {a w : World} (h : But g a w) (i : Nat) (v : Value) : But g a (w.setCell ⟨g, i, none⟩ v) :=
  h.trans ⟨rfl, rfl, rfl, by simp [World.setCell], fun k _ hn => Below.heap_setCell w ⟨g, i, none⟩ v k hn⟩
theorem But.below {g : Nat} {a w w' : World} (h : But g a w) (hb : Below w.heap.size w w') : But g a w' := h.trans (But.of_below hb)
theorem But.alloc {g : Nat} {a w : World} (h : But g a w) (o : Obj) : But g a (w.alloc o) :=
  h.trans (But.of_below ((Below.refl _ _).alloc (Nat.le_refl _) o))
theorem But.drew {g : Nat} {a w : World} (h : But g a w) : But g a w.drew := ⟨h.os, h.tape, h.output, h.size, h.block⟩
theorem But.drewN {g : Nat} {a w : World} (h : But g a w) (n : Nat) : But g a (w.drewN n) := ⟨h.os, h.tape, h.output, h.size, h.block⟩
theorem But.blk {g : Nat} {w w' : World} (h : But g w w') {k : Nat} {o : Obj} (hk : w.heap[k]? = some o) (hn : k ≠ g) : w'.heap[k]? = some o := by
  rw [h.block k (blk_lt hk) hn]; exact hk
end Go.Proofs.YtdeajkopmkdilaaGreat
