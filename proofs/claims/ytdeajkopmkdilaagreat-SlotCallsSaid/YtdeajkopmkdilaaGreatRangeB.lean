/- A range over a function whose two loop variables are laid by the assignment: the second one in a box of many cells. -/
import Derived.Test.YtdeajkopmkdilaaGreatQIn
import Derived.RangeFuncNested
import Derived.RangeFuncBox
open Go Go.RowKit
namespace Go.Proofs.YtdeajkopmkdilaaGreat
variable {P : Program} {F : Fence} {n : Nat}
theorem keepsFrom_below {B : Nat} {W W' : World} (h : Below W.heap.size W W') : KeepsFrom B W W' := ⟨h.size, fun k o _ hk _ => by rw [h.block k (blk_lt hk)]; exact hk⟩
theorem blk_own {β : Type} (k : Nat) (c : Array Value) (t : TypeId) (fr : Nat × Nat) : Own (fun (_ : β) W => W.heap[k]? = some (.cells c t fr)) := fun s X Y row hs hg hrow =>
  (hg.block k (blk_lt hs) (fun e => by obtain ⟨o, ho, hc⟩ := hrow k e.symm; rw [hs] at ho; cases ho; cases hc)).trans hs
theorem ownFrom_but {β : Type} {g B : Nat} {w0 : World} (hB : w0.heap.size ≤ B) : OwnFrom B (fun (_ : β) W => But g w0 W) := fun s X Y row hs hg hr =>
  ⟨hg.os.trans hs.os, hg.tape.trans hs.tape, hg.output.trans hs.output, Nat.le_trans hs.size hg.size, fun k hk hn =>
    (hg.block k (Nat.lt_of_lt_of_le hk hs.size) (fun e => by have := (hr k e.symm).1; omega)).trans (hs.block k hk hn)⟩
theorem rangeFunc_box {α : Type} {g : Operand} {ps : Array Tmp} {assign body : Code} {Q : Exit → Act → World → Prop} {a : Act} {w : World}
    (hro : F.round = none) (h1 : 1 ≤ n) {gf : Nat} {lb : Array Value} (hg : a.eval g = .func (.func gf) #[] lb) (hFg : F.fn gf) (eg : ∀ args w, (callFunc gf args).run P w = .ok (.enter gf args) w)
    {encs : α → Array Value} {Kp : World → World → Prop} {S Sp : List α → Prop} {N : Nat} {w0 : World} (hseq : SeqStopsK F (n - 1) P gf lb encs Kp S Sp N w0)
    (hKt : ∀ {A B C : World}, Kp A B → Kp B C → Kp A C) (hKb : ∀ (W : World) (l : Nat) (o o' : Obj), w.heap.size ≤ l → W.heap[l]? = some o → o.isCells = false → o.isWalk = false → Kp W (W.putObj l o')) (hb0 : Below w0.heap.size w0 w) (hps : ∀ x, (encs x).size = ps.size)
    (I : List α → World → Prop) (Ix : Code → List α → World → Prop) (hI : OwnFrom w.heap.size I) (hIx : ∀ c, OwnFrom w.heap.size (Ix c)) (h0 : I [] w)
    (mk : Array Value → α → Nat → Array Value) (cs : α → Array Value) (t : TypeId)
    (hassign : ∀ (l : Nat) (pre : List α) (x : α) (W : World) (K : Act → World → Prop), I pre W → (∀ a' W', KeepsFrom w.heap.size W W' → Kp W W' → I pre W' → (∃ Bx, W'.heap[Bx]? = some (.cells (cs x) t (0, 0)) ∧ a' = { tmps := mk a.tmps x Bx, defers := [] }) → K a' W') →
      assign.wpIn (F.inRound l) (n - 1 - 1) P (Exit.then K (fun _ _ _ => False)) { tmps := (ps.zip (encs x)).foldl (fun t (p, v) => t.setIfInBounds p v) a.tmps, defers := [] } W)
    (hbody : ∀ (l : Nat) (pre : List α) (x : α) (Bx : Nat) (W : World), I pre W → W.heap[Bx]? = some (.cells (cs x) t (0, 0)) → pre.length < N → body.wpIn (F.inRound l) (n - 1 - 1) P (ownPostG w.heap.size Kp I Ix (pre ++ [x]) W) { tmps := mk a.tmps x Bx, defers := [] } W)
    (hdone : ∀ (D : Nat) (xs : List α) (W : World), w.heap.size ≤ D → S xs → I xs W → W.heap[D]? = some (.deferred (some [])) → Q .normal { a with defers := { target := .collected D, args := #[] } :: a.defers } W)
    (hstop : ∀ (D : Nat) (c : Code) (pre : List α) (W : World), w.heap.size ≤ D → Sp pre → Ix c pre W → W.heap[D]? = some (.deferred (some [])) → c.wpIn F n P Q { a with defers := { target := .collected D, args := #[] } :: a.defers } W) :
    (Code.rangeFunc g ps assign body).wpIn F n P Q a w :=
  wpIn_rangeFunc_ownH hro h1 hg hFg eg hseq hKt hKb hb0 hps I Ix hI hIx h0
    (fun x a' W' => ∃ Bx, W'.heap[Bx]? = some (.cells (cs x) t (0, 0)) ∧ a' = { tmps := mk a.tmps x Bx, defers := [] })
    (fun x a' s X Y row hs hg hr => by obtain ⟨Bx, h2, h3⟩ := hs; exact ⟨Bx, blk_own Bx (cs x) t (0, 0) s X Y row h2 hg (fun r e => (hr r e).2), h3⟩)
    hassign (fun l pre x a' W _ _ hi ha hn => by obtain ⟨Bx, h2, rfl⟩ := ha; exact hbody l pre x Bx W hi h2 hn) hdone hstop
theorem run_frame_end {n : Nat} {fn : Func} {tmps : Array Value} {R : Ending → World → Prop} {D : Nat} {w : World} {v : Value} (hK : w.heap[D]? = some (.deferred (some [])))
    (hr : (results fn tmps).run P (w.putObj D (.deferred none)) = .ok v (w.putObj D (.deferred none))) (h : R (.returned v) (w.putObj D (.deferred none))) :
    LeavesInM Fence.wide n P fn tmps R [{ target := .collected D, args := #[] }] .returning w := by
  refine ⟨by simp, .inl ⟨_, _, rfl, run_takeDeferred hK, ?_⟩⟩
  exact ⟨v, hr, h⟩
theorem results_box {fn : Func} {p : Tmp} {ty : TypeId} {d : TypeDesc} (h : fn.results = #[.cell p ty]) (tmps : Array Value) (w : World) {g : Nat} (hp : tmps.getD p undef = .pointer (some ⟨g, 0, none⟩)) (hu : P.underlying ty = some d) (hd : aggD d = false) {t : TypeId} {v : Value} (hb : Boxed w g t v) :
    (results fn tmps).run P w = .ok v w := by
  have hp' : tmps[p]?.getD undef = .pointer (some ⟨g, 0, none⟩) := by simpa using hp
  have hagg : (isAgg ty).run P w = .ok false w := by
    unfold isAgg
    rw [Sem.run_bind, run_underlying hu w]
    cases d <;> simp_all [aggD]
  simp [results, h, hp', asAddr, loadVar, Sem.run_bind, hagg, hb.cell]
end Go.Proofs.YtdeajkopmkdilaaGreat
