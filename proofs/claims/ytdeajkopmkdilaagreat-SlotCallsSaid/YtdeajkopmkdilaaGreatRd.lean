/- Slices that are read; append onto a slice of the call's own. -/
import Derived.Test.YtdeajkopmkdilaaGreatMem
import Derived.Deep.AppendSrc
import Derived.OwnWalk
open Go Go.RowKit
namespace Go.Proofs.YtdeajkopmkdilaaGreat
/-- A byte's value. -/
def bval (b : UInt8) : Value := .int .u8 b.toNat
def bvals (l : List UInt8) : List Value := l.map bval
theorem bvals_length (l : List UInt8) : (bvals l).length = l.length := by simp [bvals]
theorem bvals_append (l m : List UInt8) : bvals (l ++ m) = bvals l ++ bvals m := by simp [bvals]
theorem bvals_at (l : List UInt8) (i : Nat) (h : i < l.length) : (bvals l)[i]? = some (.int .u8 (l.getD i 0).toNat) := by simp [bvals, bval, h]
theorem bvals_one (l : List UInt8) : ∀ u ∈ bvals l, u.oneCell' = true := by
  intro u hu; obtain ⟨_, _, rfl⟩ := List.mem_map.1 hu; rfl

/-- The slice v reads as n elements with the cells vs. -/
def Rd (w : World) (v : Value) (n : Nat) (vs : List Value) : Prop :=
  ∃ ao c, v = .slice ao n c ∧ n ≤ c ∧ ((n = 0 ∧ vs = []) ∨ ∃ b o, ao = some ⟨b, o, none⟩ ∧ ∀ j, j < vs.length → w.cell? ⟨b, o + j, none⟩ = vs[j]?)
/-- The slice v reads as the bytes l. -/
def RB (w : World) (v : Value) (l : List UInt8) : Prop := Rd w v l.length (bvals l)

theorem Rd.below {B : Nat} {w w' : World} {v : Value} {n : Nat} {vs : List Value} (h : Rd w v n vs) (hb : Below B w w') (hB : ∀ g, v.ownBlock = some g → g < B) : Rd w' v n vs := by
  obtain ⟨ao, c, rfl, hc, h⟩ := h
  refine ⟨ao, c, rfl, hc, ?_⟩
  rcases h with h | ⟨b, o, rfl, h⟩
  · exact .inl h
  · exact .inr ⟨b, o, rfl, fun j hj => by rw [hb.cell (p := ⟨b, o + j, none⟩) (hB b rfl)]; exact h j hj⟩
theorem cell_lt {w : World} {b o : Nat} {v : Value} (h : w.cell? ⟨b, o, none⟩ = some v) : b < w.heap.size := by
  unfold World.cell? at h
  simp only at h
  split at h
  · rename_i hh; exact (Array.getElem?_eq_some_iff.1 hh).1
  · cases h
/-- What is read stays where nothing old turns. -/
theorem Rd.keep {w w' : World} {v : Value} {n : Nat} {vs : List Value} (h : Rd w v n vs) (hb : ∀ b o x, w.cell? ⟨b, o, none⟩ = some x → w'.cell? ⟨b, o, none⟩ = some x) : Rd w' v n vs := by
  obtain ⟨ao, c, rfl, hc, h⟩ := h
  refine ⟨ao, c, rfl, hc, ?_⟩
  rcases h with h | ⟨b, o, rfl, h⟩
  · exact .inl h
  · refine .inr ⟨b, o, rfl, fun j hj => ?_⟩
    have e := h j hj
    rw [List.getElem?_eq_getElem hj] at e ⊢
    exact hb _ _ _ e
theorem Rd.belowA {w w' : World} {v : Value} {n : Nat} {vs : List Value} (h : Rd w v n vs) (hb : Below w.heap.size w w') : Rd w' v n vs :=
  h.keep fun b o x e => by rw [hb.cell (p := ⟨b, o, none⟩) (cell_lt e)]; exact e
theorem Rd.alloc {w : World} {v : Value} {n : Nat} {vs : List Value} (h : Rd w v n vs) (x : Obj) : Rd (w.alloc x) v n vs := h.belowA ((Below.refl _ _).alloc (Nat.le_refl _) x)
theorem Rd.drew {w : World} {v : Value} {n : Nat} {vs : List Value} (h : Rd w v n vs) : Rd w.drew v n vs := h
theorem Rd.drewN {w : World} {v : Value} {n m : Nat} {vs : List Value} (h : Rd w v n vs) : Rd (w.drewN m) v n vs := h
theorem Rd.of_owns {w : World} {base e size : Nat} {v : Value} {n : Nat} {vs : List Value} (h : w.ownsRow base e size v n vs) : Rd w v n vs := by
  obtain ⟨hl, h | ⟨g, cap, cur, rfl, hg, hh, hn, hm, hs, ht⟩⟩ := h
  · obtain ⟨rfl, rfl⟩ := h
    exact ⟨none, 0, rfl, Nat.le_refl _, .inl ⟨rfl, by simpa using hl⟩⟩
  · refine ⟨_, _, rfl, hn, .inr ⟨g, 0, rfl, fun j hj => ?_⟩⟩
    rw [cell_of_row w g (0 + j) cur e (0, 0) hh, ← ht, List.getElem?_take_of_lt (by omega)]
    simp
theorem Rd.nil (w : World) (ao : Option Addr) (c : Nat) : Rd w (.slice ao 0 c) 0 [] := ⟨ao, c, rfl, Nat.zero_le _, .inl ⟨rfl, rfl⟩⟩
theorem Rd.of_blk {w : World} {b o n c : Nat} {l vs : List Value} {t : TypeId} {fr : Nat × Nat} (h : w.heap[b]? = some (.cells l.toArray t fr)) (hc : n ≤ c) (hv : ∀ j, j < vs.length → l[o + j]? = vs[j]?) : Rd w (.slice (some ⟨b, o, none⟩) n c) n vs :=
  ⟨_, _, rfl, hc, .inr ⟨b, o, rfl, fun j hj => by rw [cell_of_row w b (o + j) _ t fr h, ← hv j hj]; simp⟩⟩

theorem RB.tail {w : World} {b o n cc : Nat} {b0 : UInt8} {l : List UInt8} (h : RB w (.slice (some ⟨b, o, none⟩) (n + 1) cc) (b0 :: l)) : RB w (.slice (some ⟨b, o + 1, none⟩) n (cc - 1)) l := by
  obtain ⟨ao, c', e, hc, hh⟩ := h
  simp only [Value.slice.injEq, List.length_cons] at e
  obtain ⟨rfl, e2, rfl⟩ := e
  have : n = l.length := by omega
  subst this
  refine ⟨_, _, rfl, by simp at hc; omega, ?_⟩
  rcases hh with ⟨h0, _⟩ | ⟨b', o', e3, hh⟩
  · simp at h0
  · cases e3
    refine .inr ⟨b, o + 1, rfl, fun j hj => ?_⟩
    have := hh (j + 1) (by simp [bvals] at hj ⊢; omega)
    rw [show o + 1 + j = o + (j + 1) by omega, this]
    simp [bvals]
theorem RB.keep {w w' : World} {v : Value} {l : List UInt8} (h : RB w v l) {B : Nat} (hb : Below B w w') (hB : w.heap.size ≤ B) : RB w' v l := Rd.belowA h (hb.mono hB)

theorem owns_some {w : World} {B e size : Nat} {r : Value} {n : Nat} {xs : List Value} (h : w.ownsRow B e size r n xs) (hn : 0 < n) : ∃ g cap, r = .slice (some ⟨g, 0, none⟩) n cap ∧ B ≤ g ∧ n ≤ cap := by
  obtain ⟨_, h | ⟨g, cap, cur, rfl, hg, hh, hc, _⟩⟩ := h
  · omega
  · exact ⟨g, cap, rfl, hg, hc⟩
theorem RB.sub {w : World} {b o n cc : Nat} {l : List UInt8} (h : RB w (.slice (some ⟨b, o, none⟩) n cc) l) (i k c' : Nat) (hk : i + k ≤ l.length) (hc : k ≤ c') : RB w (.slice (some ⟨b, o + i, none⟩) k c') ((l.drop i).take k) := by
  obtain ⟨ao, c0, e, hc0, hh⟩ := h
  simp only [Value.slice.injEq] at e
  obtain ⟨rfl, rfl, rfl⟩ := e
  have hlen : ((l.drop i).take k).length = k := by simp; omega
  refine ⟨_, _, by rw [hlen], by rw [hlen]; exact hc, ?_⟩
  by_cases hk0 : k = 0
  · subst hk0; exact .inl ⟨by simp, by simp [bvals]⟩
  rcases hh with ⟨h0, _⟩ | ⟨b', o', e3, hh⟩
  · omega
  · cases e3
    refine .inr ⟨b, o + i, rfl, fun j hj => ?_⟩
    rw [bvals_length, hlen] at hj
    rw [Nat.add_assoc, hh (i + j) (by rw [bvals_length]; omega)]
    unfold bvals
    rw [List.getElem?_map, List.getElem?_map, List.getElem?_take_of_lt hj, List.getElem?_drop]

theorem owns_below {w w' : World} {B e size : Nat} {v : Value} {n : Nat} {xs : List Value} (h : w.ownsRow B e size v n xs) (hb : Below w.heap.size w w') : w'.ownsRow B e size v n xs := by
  obtain ⟨h1, h2⟩ := h
  refine ⟨h1, ?_⟩
  rcases h2 with h2 | ⟨g, cap, cur, e1, e2, e3, e4⟩
  · exact .inl h2
  · exact .inr ⟨g, cap, cur, e1, e2, blk_belowA hb e3, e4⟩
theorem owns_setRow {w : World} {B e size : Nat} {v : Value} {n : Nat} {xs : List Value} (h : w.ownsRow B e size v n xs) {g : Nat} (hg : g < B) (l : Array Value) : (w.setRow g l).ownsRow B e size v n xs := by
  obtain ⟨h1, h2⟩ := h
  refine ⟨h1, ?_⟩
  rcases h2 with h2 | ⟨k, cap, cur, e1, e2, e3, e4⟩
  · exact .inl h2
  · exact .inr ⟨k, cap, cur, e1, e2, blk_row_other e3 (by omega) l, e4⟩
theorem owns_mono {w : World} {B B' e size : Nat} {v : Value} {n : Nat} {xs : List Value} (h : w.ownsRow B e size v n xs) (hB : B' ≤ B) : w.ownsRow B' e size v n xs := by
  obtain ⟨h1, h2⟩ := h
  refine ⟨h1, ?_⟩
  rcases h2 with h2 | ⟨g, cap, cur, e1, e2, e3⟩
  · exact .inl h2
  · exact .inr ⟨g, cap, cur, e1, Nat.le_trans hB e2, e3⟩

theorem RB.setRow {w : World} {b o n c : Nat} {l : List UInt8} (h : RB w (.slice (some ⟨b, o, none⟩) n c) l) {g : Nat} (hne : b ≠ g) (L : Array Value) : RB (w.setRow g L) (.slice (some ⟨b, o, none⟩) n c) l := by
  obtain ⟨ao, c0, e, hc0, hh⟩ := h
  simp only [Value.slice.injEq] at e
  obtain ⟨rfl, rfl, rfl⟩ := e
  refine ⟨_, _, rfl, hc0, ?_⟩
  rcases hh with hh | ⟨b', o', e3, hh⟩
  · exact .inl hh
  · cases e3
    exact .inr ⟨b, o, rfl, fun j hj => by rw [cell_setRow_other w g L ⟨b, o + j, none⟩ hne]; exact hh j hj⟩

theorem owns_form {w : World} {B e size : Nat} {r : Value} {n : Nat} {xs : List Value} (h : w.ownsRow B e size r n xs) : ∃ ao c, r = .slice ao n c := by
  obtain ⟨_, ⟨rfl, rfl⟩ | ⟨g, cap, cur, rfl, _⟩⟩ := h
  · exact ⟨_, _, rfl⟩
  · exact ⟨_, _, rfl⟩

section
variable {P : Program}
/-- append onto a slice of the call's own, from whatever slice is read. -/
theorem wpl_append {ops : Array Oper} {rest : List Oper} {dst : Option Tmp} {tt : TypeId} {s x : Operand} {t : TypeId} {ps : String} {af : Array Edge} {a : Act} {w : World} {Q : Exit → Act → World → Prop}
    {base : Nat} {e : TypeId} {i : TypeInfo} {z : Value} {size bytes : Nat} (ht : P.underlying t = some (.slice e)) (hi : P.info? e = some i) (hz : i.zero = some z)
    (hsize : i.size = size) (hby : i.bytes = bytes) (hzs : z.cells.size = size) (hsz : 0 < size)
    {v : Value} {n : Nat} {xs : List Value} (hs : a.eval s = v) (hown : w.ownsRow base e size v n xs)
    {u : Value} {m : Nat} {news : List Value} (hx : a.eval x = u) (hrd : Rd w u m news) (hl : news.length = m * size) (h1 : ∀ y ∈ news, y.oneCell' = true)
    (h63 : n + m ≤ maxLen) (hbytes : (n + m) * bytes ≤ 140737488355328) (hbase : base ≤ w.heap.size)
    (h : ∀ v' w', w'.ownsRow base e size v' (n + m) (xs ++ news) → w.grownBy w' v.ownBlock → wpList P ops Q rest (a.put dst v') w') :
    wpList P ops Q ({ dst := dst, op := .call { callee := .builtin .append, args := #[s, x], argTypes := #[t, t] }, type := tt, pos := ps, after := af, guard := none } :: rest) a w := by
  obtain ⟨ao, c, rfl, _, hr⟩ := hrd
  by_cases hm : m = 0
  · subst hm
    have hn : news = [] := by simpa using hl
    subst hn
    have hle : ∃ bo k cp, v = .slice bo n cp ∧ n ≤ cp ∧ k = 0 := by
      obtain ⟨_, h | ⟨g, cap, cur, rfl, hg, hh, hn, hm, hs, ht⟩⟩ := hown
      · obtain ⟨rfl, rfl⟩ := h; exact ⟨_, 0, _, rfl, Nat.le_refl _, rfl⟩
      · exact ⟨_, 0, _, rfl, hn, rfl⟩
    obtain ⟨bo, _, cp, hv, hle, _⟩ := hle
    have hrun : (Builtin.append_ #[t, t] tt #[v, .slice ao 0 c]).run P w = .ok v w := by
      subst hv
      cases bo <;> cases ao <;> simp [Builtin.append_, run_underlying ht, sizeOf, typeInfo, hi, hle, Builtin.lenOf, Builtin.firstCells, loadCells, loadCellsFrom, storeCells]
    refine wpList_want rfl ?_
    have hh := h v w (by simpa using hown) ⟨rfl, rfl, rfl, Nat.le_refl _, fun _ _ _ => rfl⟩
    unfold Oper.wp execOp
    simp only [resolve, invoke, builtin, Sem.run_bind, Sem.run_pure, Result.andThen_ok, List.map_toArray, List.map_cons, List.map_nil, hs, hx, hrun]
    exact hh
  · rcases hr with ⟨h0, _⟩ | ⟨b, o, rfl, hr⟩
    · exact absurd h0 hm
    · exact wpList_append_own w rfl s x t rfl base e i z size bytes ht hi hz hsize hby hzs hsz v n xs hs hown ⟨b, o, none⟩ m c news hx hl
        (fun j y hj => by rw [add_at]; have := (List.getElem?_eq_some_iff.1 hj).1; rw [hr j this]; exact hj) h1 h63 hbytes hbase (fun v' w' h2 h3 _ => h v' w' h2 h3)
theorem at_append {ops : Array Oper} {rest : List Oper} {dst : Option Tmp} {tt : TypeId} {s x : Operand} {t1 t2 : TypeId} {ps : String} {af : Array Edge} {a : Act} {w : World} {Q : Exit → Act → World → Prop}
    (h : wpList P ops Q ({ dst := dst, op := .call { callee := .builtin .append, args := #[s, x], argTypes := #[t1, t2] }, type := tt, pos := ps, after := af, guard := none } :: rest) a w) :
    wpList P ops Q ({ dst := dst, op := .call { callee := .builtin .append, args := #[s, x], argTypes := #[t1, t2] }, type := tt, pos := ps, after := af, guard := none } :: rest) a w := h
end
end Go.Proofs.YtdeajkopmkdilaaGreat
