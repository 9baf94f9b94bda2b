/- My laws on aggregates inside a fence. Conditions: none. -/
import Derived.Test.YtdeajkopmkdilaaGreatMem
import Derived.OwnWalkIn
import Derived.TacticsInMore
open Go Go.RowKit
namespace Go.Proofs.YtdeajkopmkdilaaGreat
section
variable {P : Program} {F : Fence} {n : Nat}
theorem wplIn_run {ops : Array Oper} {rest : List Oper} {o : Oper} {a : Act} {w w' : World} {Q : Exit → Act → World → Prop} {v : Value}
    (hw : Region.wanted o (yielded ops a.tmps) = true) (ha : o.about P w a.eval = none) (hs : o.semAt F.round a.eval = execOp a.eval o)
    (hr : (execOp a.eval o).run P w = .ok (.value v) w') (h : wpListIn F n P ops Q rest (a.put o.dst v) w') : wpListIn F n P ops Q (o :: rest) a w := by
  unfold wpListIn
  rw [if_pos hw]
  refine ⟨fun f hf => (by rw [ha] at hf; cases hf), ?_⟩
  rw [hs, hr]; exact h
theorem wplIn_run0 {ops : Array Oper} {rest : List Oper} {o : Oper} {a : Act} {w w' : World} {Q : Exit → Act → World → Prop}
    (hw : Region.wanted o (yielded ops a.tmps) = true) (ha : o.about P w a.eval = none) (hs : o.semAt F.round a.eval = execOp a.eval o)
    (hr : (execOp a.eval o).run P w = .ok .skip w') (h : wpListIn F n P ops Q rest (a.put o.dst undef) w') : wpListIn F n P ops Q (o :: rest) a w := by
  unfold wpListIn
  rw [if_pos hw]
  refine ⟨fun f hf => (by rw [ha] at hf; cases hf), ?_⟩
  rw [hs, hr]; exact h
theorem wanted_at {o : Oper} {ops : Array Oper} {tmps : Array Value} {j d : Nat} {b : Bool} (hg : o.guard = some (j, b)) (h1 : (ops[j]?).bind (·.dst) = some d) (h2 : tmps[d]? = some (.bool b)) : Region.wanted o (yielded ops tmps) = true := by
  simp [Region.wanted, yielded, hg, h1, h2]
theorem wplIn_load {ops : Array Oper} {rest : List Oper} {dst : Option Tmp} {ty tt : TypeId} {x : Operand} {ps : String} {af : Array Edge} {gd : Option (Nat × Bool)} {a : Act} {w : World} {Q : Exit → Act → World → Prop}
    (hw : Region.wanted { dst := dst, op := .load ty x, type := tt, pos := ps, after := af, guard := gd } (yielded ops a.tmps) = true)
    {d : TypeDesc} (hu : P.underlying ty = some d) (hd : aggD d = true) {m : Nat} (hi : (P.info? ty).map (·.size) = some m) {vs : List Value} (hp : partAt w (a.eval x) m = some vs)
    (h : wpListIn F n P ops Q rest (a.put dst (.agg vs.toArray)) w) :
    wpListIn F n P ops Q ({ dst := dst, op := .load ty x, type := tt, pos := ps, after := af, guard := gd } :: rest) a w :=
  wplIn_run hw rfl (by cases F.round <;> rfl) ((exec_load hu hd hi a.eval dst x tt ps af gd w (by rw [hp]; rfl)).trans (by rw [hp]; rfl)) h
theorem wplIn_index {ops : Array Oper} {rest : List Oper} {dst : Option Tmp} {ty el tt : TypeId} {x y : Operand} {ps : String} {af : Array Edge} {gd : Option (Nat × Bool)} {a : Act} {w : World} {Q : Exit → Act → World → Prop}
    (hw : Region.wanted { dst := dst, op := .index ty x y, type := tt, pos := ps, after := af, guard := gd } (yielded ops a.tmps) = true)
    {len m : Nat} {d : TypeDesc} (ht : P.underlying ty = some (.array len el)) (hu : P.underlying el = some d) (hd : aggD d = true) (hi : (P.info? el).map (·.size) = some m) {vs : List Value} (hp : aggAt (a.eval x) (a.eval y) len m = some vs)
    (h : wpListIn F n P ops Q rest (a.put dst (.agg vs.toArray)) w) :
    wpListIn F n P ops Q ({ dst := dst, op := .index ty x y, type := tt, pos := ps, after := af, guard := gd } :: rest) a w :=
  wplIn_run hw rfl (by cases F.round <;> rfl) ((exec_index ht hu hd hi a.eval dst x y tt ps af gd w (by rw [hp]; rfl)).trans (by rw [hp]; rfl)) h
theorem wplIn_store {ops : Array Oper} {rest : List Oper} {dst : Option Tmp} {ty tt : TypeId} {x y : Operand} {ps : String} {af : Array Edge} {gd : Option (Nat × Bool)} {a : Act} {w : World} {Q : Exit → Act → World → Prop}
    (hw : Region.wanted { dst := dst, op := .store ty x y, type := tt, pos := ps, after := af, guard := gd } (yielded ops a.tmps) = true)
    {m : Nat} (hi : (P.info? ty).map (·.size) = some m) (hc : canPut w (a.eval x) (a.eval y) m = true) {w' : World} (hp : putAt w (a.eval x) (a.eval y) = w')
    (h : wpListIn F n P ops Q rest (a.put dst undef) w') :
    wpListIn F n P ops Q ({ dst := dst, op := .store ty x y, type := tt, pos := ps, after := af, guard := gd } :: rest) a w :=
  wplIn_run0 hw rfl (by cases F.round <;> rfl) ((exec_store hi a.eval dst x y tt ps af gd w hc).trans (by rw [hp])) h
theorem atIn_load (ty : TypeId) {ops : Array Oper} {rest : List Oper} {dst : Option Tmp} {tt : TypeId} {x : Operand} {ps : String} {af : Array Edge} {gd : Option (Nat × Bool)} {a : Act} {w : World} {Q : Exit → Act → World → Prop} (h : wpListIn F n P ops Q ({ dst := dst, op := .load ty x, type := tt, pos := ps, after := af, guard := gd } :: rest) a w) : wpListIn F n P ops Q ({ dst := dst, op := .load ty x, type := tt, pos := ps, after := af, guard := gd } :: rest) a w := h
theorem atIn_index (ty : TypeId) {ops : Array Oper} {rest : List Oper} {dst : Option Tmp} {tt : TypeId} {x y : Operand} {ps : String} {af : Array Edge} {gd : Option (Nat × Bool)} {a : Act} {w : World} {Q : Exit → Act → World → Prop} (h : wpListIn F n P ops Q ({ dst := dst, op := .index ty x y, type := tt, pos := ps, after := af, guard := gd } :: rest) a w) : wpListIn F n P ops Q ({ dst := dst, op := .index ty x y, type := tt, pos := ps, after := af, guard := gd } :: rest) a w := h
theorem atIn_store (ty : TypeId) {ops : Array Oper} {rest : List Oper} {dst : Option Tmp} {tt : TypeId} {x y : Operand} {ps : String} {af : Array Edge} {gd : Option (Nat × Bool)} {a : Act} {w : World} {Q : Exit → Act → World → Prop} (h : wpListIn F n P ops Q ({ dst := dst, op := .store ty x y, type := tt, pos := ps, after := af, guard := gd } :: rest) a w) : wpListIn F n P ops Q ({ dst := dst, op := .store ty x y, type := tt, pos := ps, after := af, guard := gd } :: rest) a w := h
theorem wpl_put {ops : Array Oper} {rest : List Oper} {dst : Option Tmp} {ty tt : TypeId} {x y : Operand} {ps : String} {af : Array Edge} {a : Act} {w : World} {Q : Exit → Act → World → Prop}
    {m : Nat} (hi : (P.info? ty).map (·.size) = some m) (hc : canPut w (a.eval x) (a.eval y) m = true) {w' : World} (hp : putAt w (a.eval x) (a.eval y) = w')
    (h : wpList P ops Q rest (a.put dst undef) w') :
    wpList P ops Q ({ dst := dst, op := .store ty x y, type := tt, pos := ps, after := af, guard := none } :: rest) a w := by
  refine wpList_want rfl ?_
  unfold Oper.wp
  rw [exec_store hi a.eval dst x y tt ps af none w hc, hp]
  exact h
/-- A new block, written over at once. -/
theorem putAt_new (w : World) (l vs : List Value) (t : TypeId) (h : vs.length = l.length) : putAt (w.alloc (.cells l.toArray t)) (.pointer (some ⟨w.heap.size, 0, none⟩)) (.agg vs.toArray) = w.alloc (.cells vs.toArray t) := by
  rw [putAt_blk (blk_new w _), splice_full _ _ h]
  simp only [World.setRow, World.alloc]
  congr 1
  apply Array.ext
  · simp
  · intro i h1 h2
    simp only [Array.getElem_modify, Array.getElem_push]
    grind
theorem canPut_new (w : World) (l vs : List Value) (t : TypeId) {m : Nat} (h : vs.length = m) (hl : m ≤ l.length) (h1 : vs.all (·.oneCell') = true) : canPut (w.alloc (.cells l.toArray t)) (.pointer (some ⟨w.heap.size, 0, none⟩)) (.agg vs.toArray) m = true := by
  rw [canPut_at _ _ _ _ _ (okBlk_blk (blk_new w _))]
  simp [h, hl]; simpa using h1
end
theorem partAt_same {w w' : World} {g o n : Nat} (h : w'.heap[g]? = w.heap[g]?) : partAt w' (.pointer (some ⟨g, o, none⟩)) n = partAt w (.pointer (some ⟨g, o, none⟩)) n := by
  simp only [partAt, h]
theorem partAt_lt {w : World} {g o n : Nat} {vs : List Value} (h : partAt w (.pointer (some ⟨g, o, none⟩)) n = some vs) : g < w.heap.size := by
  unfold partAt at h
  simp only at h
  split at h
  · rename_i hg; exact (Array.getElem?_eq_some_iff.1 hg).1
  · cases h
theorem partAt_below {w w' : World} {g o n : Nat} {vs : List Value} (h : partAt w (.pointer (some ⟨g, o, none⟩)) n = some vs) (hb : Below w.heap.size w w') : partAt w' (.pointer (some ⟨g, o, none⟩)) n = some vs := by
  rw [partAt_same (hb.block g (partAt_lt h))]; exact h
theorem okBlk_below {w w' : World} {g n : Nat} (h : okBlk w g = some n) (hb : Below w.heap.size w w') : okBlk w' g = some n := by
  obtain ⟨l, t, e1, e2⟩ := okBlk_some h
  rw [okBlk_blk (blk_belowA hb e2), e1]
theorem putAt_some {w : World} {g o n : Nat} {cs : Array Value} (h : okBlk w g = some n) : ∃ (l : List Value) (t : TypeId), l.length = n ∧ w.heap[g]? = some (.cells l.toArray t (0, 0)) ∧ putAt w (.pointer (some ⟨g, o, none⟩)) (.agg cs) = w.setRow g (splice l o cs.toList).toArray := by
  obtain ⟨l, t, e1, e2⟩ := okBlk_some h
  refine ⟨l, t, e1, e2, ?_⟩
  have := putAt_blk (o := o) (vs := cs.toList) e2
  rwa [Array.toArray_toList] at this
theorem okBlk_put {w : World} {g o n : Nat} {cs : Array Value} (h : okBlk w g = some n) (hc : o + cs.size ≤ n) : okBlk (putAt w (.pointer (some ⟨g, o, none⟩)) (.agg cs)) g = some n := by
  obtain ⟨l, t, e1, e2, e3⟩ := putAt_some (o := o) (cs := cs) h
  rw [e3, okBlk_blk (blk_row e2 _), splice_length _ _ _ (by simp; omega), e1]
theorem partAt_put {w : World} {g o n k i m : Nat} {vs : List Value} {cs : Array Value} (h : okBlk w g = some n) (hp : partAt w (.pointer (some ⟨k, i, none⟩)) m = some vs) (hne : k ≠ g) : partAt (putAt w (.pointer (some ⟨g, o, none⟩)) (.agg cs)) (.pointer (some ⟨k, i, none⟩)) m = some vs := by
  obtain ⟨l, t, e1, e2, e3⟩ := putAt_some (o := o) (cs := cs) h
  rw [e3, partAt_same (setRow_other w g k _ hne)]; exact hp
theorem below_put {B : Nat} {a w : World} {g o n : Nat} {cs : Array Value} (hb : Below B a w) (h : okBlk w g = some n) (hB : B ≤ g) : Below B a (putAt w (.pointer (some ⟨g, o, none⟩)) (.agg cs)) := by
  obtain ⟨l, t, e1, e2, e3⟩ := putAt_some (o := o) (cs := cs) h
  rw [e3]; exact below_setRow hb hB _
end Go.Proofs.YtdeajkopmkdilaaGreat
