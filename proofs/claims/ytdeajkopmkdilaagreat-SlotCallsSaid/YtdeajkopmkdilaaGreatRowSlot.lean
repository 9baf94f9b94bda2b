/- crosswaylaw18.SlotCalls answers true for every input that can be read, and leaves its argument as it was: the given statement. Conditions: none beyond the statement's own. -/
import Derived.Test.YtdeajkopmkdilaaGreatRows
import Derived.Test.YtdeajkopmkdilaaGreatSlotCalls
import Derived.Test.YtdeajkopmkdilaaGreatRow0
open Go Go.RowKit Go.WideShapes Go.ChangeShapes Go.ChangeAt Go.Deep
namespace Go.Proofs.YtdeajkopmkdilaaGreat
set_option maxRecDepth 100000
section
variable {H : Type} {enc : TypeId × Value → H} {w : World} {base : Nat} {spare : Nat → Bool} {held : Bool}
theorem partAt_cells {g o n : Nat} {vs : List Value} (hn : 0 < n) (hl : vs.length = n) (h : ∀ j, j < n → w.cell? ⟨g, o + j, none⟩ = vs[j]?) : partAt w (.pointer (some ⟨g, o, none⟩)) n = some vs := by
  have h0 := h 0 hn
  rw [List.getElem?_eq_getElem (by omega)] at h0
  obtain ⟨l, t, fr, hg⟩ : ∃ l t fr, w.heap[g]? = some (.cells l t fr) := by
    unfold World.cell? at h0
    simp only at h0
    split at h0
    · rename_i c e fr hh; exact ⟨c, e, fr, hh⟩
    · cases h0
  have hc : ∀ j, j < n → l[o + j]? = vs[j]? := fun j hj => by rw [← h j hj, cell_of_row w g (o + j) l t fr hg]
  have hsz : o + n ≤ l.size := by
    have := hc (n - 1) (by omega)
    rw [List.getElem?_eq_getElem (by omega)] at this
    have := (Array.getElem?_eq_some_iff.1 this).1
    omega
  have hg' : w.heap[g]? = some (.cells l.toList.toArray t fr) := by simpa using hg
  refine partAt_blk hg' (by simpa using hsz) ?_
  apply List.ext_getElem?
  intro j
  by_cases hj : j < n
  · rw [List.getElem?_take_of_lt hj, List.getElem?_drop, ← hc j hj]; simp
  · rw [List.getElem?_eq_none (by simp; omega), List.getElem?_eq_none (by omega)]
def toB : Value → UInt8
  | .int _ n => UInt8.ofNat n.toNat
  | _ => 0
theorem wf_u8 {n : Int} (h : (Lit.int .u8 n).wf = true) : 0 ≤ n ∧ n < 256 := by
  have : IntKind.u8.min ≤ n ∧ n ≤ IntKind.u8.max := by simpa [Lit.wf] using h
  exact ⟨this.1, Int.lt_of_le_of_lt this.2 (by decide)⟩
theorem trod_key {fuel : Nat} {cs : List Value} {x : DataW H × List MemPlace} (h : DataW.trod enc Tryz.prog w base spare held fuel 27 cs = some x) : ∃ k, cs = keyL k := by
  obtain ⟨xs, m, _, _, hl, hx, hi⟩ := DataW.trod_array Tryz.underlying27 h
  have hl16 : cs.length = 16 := hl.trans (by kernel_rfl)
  have h1 : Tryz.prog.cellsOf 5 = 1 := by kernel_rfl
  have each : ∀ i, i < 16 → ∃ n : Int, cs[i]? = some (.int .u8 n) ∧ 0 ≤ n ∧ n < 256 := fun i hlt => by
    have := hi i hlt
    rw [h1, Nat.mul_one, List.getElem?_eq_getElem (by omega)] at this
    obtain ⟨n, hn, _, hw⟩ := DataW.trod_int Tryz.underlying5 this
    have e : ((cs.drop i).take 1)[0]? = some (.int .u8 n) := by rw [hn]; rfl
    rw [List.getElem?_take_of_lt (by omega), List.getElem?_drop, Nat.add_zero] at e
    exact ⟨n, e, wf_u8 hw⟩
  refine ⟨cs.map toB, ?_⟩
  apply List.ext_getElem?
  intro i
  by_cases hlt : i < 16
  · obtain ⟨n, hn, h0, h2⟩ := each i hlt
    have hk : kb (cs.map toB) i = UInt8.ofNat n.toNat := by simp [kb, List.getD, hn, toB]
    have e : (keyL (cs.map toB))[i]? = some (bval (kb (cs.map toB) i)) := by
      have : ∀ i, i < 16 → ∀ k, (keyL k)[i]? = some (bval (kb k i)) := by
        intro i hi k
        rcases (show i = 0 ∨ i = 1 ∨ i = 2 ∨ i = 3 ∨ i = 4 ∨ i = 5 ∨ i = 6 ∨ i = 7 ∨ i = 8 ∨ i = 9 ∨ i = 10 ∨ i = 11 ∨ i = 12 ∨ i = 13 ∨ i = 14 ∨ i = 15 by omega) with rfl | rfl | rfl | rfl | rfl | rfl | rfl | rfl | rfl | rfl | rfl | rfl | rfl | rfl | rfl | rfl <;> rfl
      exact this i hlt _
    rw [hn, e, hk]
    unfold bval
    rw [UInt8.toNat_ofNat', Nat.mod_eq_of_lt (by omega), Int.toNat_of_nonneg h0]
  · rw [List.getElem?_eq_none (by omega), List.getElem?_eq_none (by rw [keyL_length]; omega)]
theorem take1 {cs : List Value} {i : Nat} {v : Value} (h : (cs.drop i).take 1 = [v]) : cs[i]? = some v := by
  have e : ((cs.drop i).take 1)[0]? = some v := by rw [h]; rfl
  rwa [List.getElem?_take_of_lt (by omega), List.getElem?_drop, Nat.add_zero] at e
theorem trod_int_at {cs : List Value} {t i : Nat} {k : IntKind} (ht : Tryz.prog.underlying t = some (.int k)) (hc : Tryz.prog.cellsOf t = 1) {n : Nat} {xs : List (DataW H × List MemPlace)} {j : Nat} (hj : j < xs.length)
    (h : DataW.trod enc Tryz.prog w base spare held n t ((cs.drop i).take (Tryz.prog.cellsOf t)) = xs[j]?) : ∃ z : Int, cs[i]? = some (.int k z) ∧ (Lit.int k z).wf = true := by
  rw [hc, List.getElem?_eq_getElem hj] at h
  obtain ⟨z, hz, _, hw⟩ := DataW.trod_int ht h
  exact ⟨z, take1 hz, hw⟩
theorem trod_cfg {fuel : Nat} {cs : List Value} {x : DataW H × List MemPlace} (h : DataW.trod enc Tryz.prog w base spare held fuel 35 cs = some x) : ∃ c, cs = cfgL c := by
  obtain ⟨xs, m, _, _, hl, hx, hf⟩ := DataW.trod_struct Tryz.underlying35 h
  have hl19 : cs.length = 19 := hl.trans (by kernel_rfl)
  have hx4 : xs.length = 4 := hx
  obtain ⟨a, ha, _⟩ := trod_int_at Tryz.underlying3 (by kernel_rfl) (by omega) (hf 0 _ rfl)
  obtain ⟨b, hb, _⟩ := trod_int_at Tryz.underlying3 (by kernel_rfl) (by omega) (hf 1 _ rfl)
  obtain ⟨c, hc, _⟩ := trod_int_at Tryz.underlying3 (by kernel_rfl) (by omega) (hf 2 _ rfl)
  have h3 := hf 3 _ rfl
  rw [List.getElem?_eq_getElem (by omega)] at h3
  obtain ⟨k, hk⟩ := trod_key h3
  have hk' : (cs.drop 3).take 16 = keyL k := hk
  refine ⟨⟨a, b, c, k⟩, ?_⟩
  match cs, hl19, ha, hb, hc, hk' with
  | x0 :: x1 :: x2 :: rest, hl, ha, hb, hc, hk' =>
    obtain rfl : x0 = .int .i64 a := by simpa using ha
    obtain rfl : x1 = .int .i64 b := by simpa using hb
    obtain rfl : x2 = .int .i64 c := by simpa using hc
    have e : rest = keyL k := by
      rw [← hk']
      show rest = rest.take 16
      rw [List.take_of_length_le (by simp at hl; omega)]
    rw [e]; rfl
theorem trod_call {fuel : Nat} {cs : List Value} {x : DataW H × List MemPlace} (h : DataW.trod enc Tryz.prog w base spare held fuel 37 cs = some x) : ∃ a p c, cs = callL a p c := by
  obtain ⟨xs, m, _, _, hl, hx, hf⟩ := DataW.trod_struct Tryz.underlying37 h
  have hl21 : cs.length = 21 := hl.trans (by kernel_rfl)
  have hx3 : xs.length = 3 := hx
  obtain ⟨a, ha, _⟩ := trod_int_at Tryz.underlying3 (by kernel_rfl) (by omega) (hf 0 _ rfl)
  obtain ⟨b, hb, _⟩ := trod_int_at Tryz.underlying3 (by kernel_rfl) (by omega) (hf 1 _ rfl)
  have h2 := hf 2 _ rfl
  rw [List.getElem?_eq_getElem (by omega)] at h2
  obtain ⟨c, hc⟩ := trod_cfg h2
  have hc' : (cs.drop 2).take 19 = cfgL c := hc
  refine ⟨a, b, c, ?_⟩
  match cs, hl21, ha, hb, hc' with
  | x0 :: x1 :: rest, hl, ha, hb, hc' =>
    obtain rfl : x0 = .int .i64 a := by simpa using ha
    obtain rfl : x1 = .int .i64 b := by simpa using hb
    have e : rest = cfgL c := by
      rw [← hc']
      show rest = rest.take 19
      rw [List.take_of_length_le (by simp at hl; omega)]
    rw [e]; rfl
theorem calls_open {r : Reach} {b0 : Nat} {v : Value} {d : DataW H} {p : List MemPlace} (hv : Value.okWide Tryz.prog w r b0 22 v) (h : DataW.Trod enc Tryz.prog w 0 (fun _ => true) true 22 v d p) : ∃ n, CallsAt w v n := by
  obtain ⟨a0, len0, cap0, rfl⟩ := okWide_slice Tryz.underlying22 hv
  obtain ⟨fuel, hf⟩ := h
  have h21 : Tryz.prog.cellsOf 37 = 21 := by kernel_rfl
  rcases open_slice Tryz.underlying22 hf with ⟨hcs, _⟩ | ⟨a, len, cap, m, n, D, Pl, hcs, _, hl, hm, hmm, _, hi⟩
  · simp [Value.cells] at hcs
    obtain ⟨rfl, rfl, rfl⟩ := hcs
    exact ⟨0, none, 0, rfl, fun i hi => by omega⟩
  · simp [Value.cells] at hcs
    obtain ⟨rfl, rfl, rfl⟩ := hcs
    simp only [if_true] at hmm
    subst hmm
    rw [h21] at hi
    refine ⟨len0, some a, _, rfl, fun i hlt => ?_⟩
    obtain ⟨b, o, spot⟩ := a
    obtain ⟨cs', hc, ht⟩ := hi i (by omega)
    obtain ⟨_, hlen, hat⟩ := World.cells?_some hc
    have hspot : spot = none := by
      obtain ⟨cs0, hc0, _⟩ := hi 0 (by omega)
      obtain ⟨_, hlen0, hat0⟩ := World.cells?_some hc0
      have := hat0 0 (by omega)
      rw [List.getElem?_eq_getElem (by omega)] at this
      simpa [Addr.add] using World.cell?_spot this
    subst hspot
    refine ⟨b, o, rfl, ?_⟩
    obtain ⟨q, z, c, rfl⟩ := trod_call ht
    refine ⟨q, z, c, partAt_cells (by omega) hlen fun j hj => ?_⟩
    have := hat j hj
    rwa [add_at, add_at] at this
end
theorem laid : laidOutB Tryz.prog = true := by kernel_rfl
theorem own0 : ownKnob Tryz.prog.godebug = none := by kernel_rfl
theorem slotCalls_lifted (os : Os) (started : os.Started) (H : Type) (enc : TypeId × Value → H) :
    ReturnsInHanded {} Tryz.checked os 3 .any (Go.Proofs.YtdeajkopmkdilaaGreat.Rows.slotCallsSpec.pre6 enc Tryz.prog Tryz.f3 Go.Proofs.YtdeajkopmkdilaaGreat.Rows.slotCallsRow.domain false) (Go.Proofs.YtdeajkopmkdilaaGreat.Rows.slotCallsSpec.post enc Tryz.prog Tryz.f3 false true false false) := by
  refine returnsInHanded_of_change (C := Tryz.checked) own0 started (by kernel_rfl) Tryz.func3
    (ChangeSpec.witness6 (enc := enc) (C := Tryz.checked) false ⟨#[], #[.slice none 0 0], []⟩ 8 (by kernel_rfl) (by kernel_rfl) (by kernel_rfl) (by kernel_rfl)) ?_
  intro W base args ds gs before hval0 hW hcnd _
  have hval : ∀ (j : Nat) t v, Tryz.f3.params[j]? = some t → args[j]? = some v → Value.okWide Tryz.prog W .any base t v := hval0
  have hW' := hW
  obtain ⟨p, q, hA0, hV, rfl, hfz, hnd⟩ := hW
  have hA : DataW.TrodAll enc Tryz.prog W 0 (fun _ => true) true Tryz.f3.params.toList args.toList ds p := hA0
  rw [Tryz.params3] at hA hval
  obtain ⟨v0, vs0, d0, ds0, p0, q0, hargs, rfl, rfl, h0, r0⟩ := trodAll_cons hA
  obtain ⟨rfl, rfl, rfl⟩ := trodAll_nil r0
  obtain rfl : args = #[v0] := by cases args; simp_all
  obtain ⟨rfl, rfl⟩ := trodVars_none hV
  obtain ⟨n, hc⟩ := calls_open (hval 0 22 v0 rfl rfl) h0
  refine (slotCalls_any v0 n W hc).mono fun e W' ⟨he, hb⟩ => ?_
  subst he
  exact ⟨_, rfl, law_post laid (by kernel_rfl) Tryz.underlying4 (by kernel_rfl) rfl hW' rfl hb⟩
/-- The statement. -/
theorem slotCalls_holds : Go.Proofs.YtdeajkopmkdilaaGreat.Rows.SlotCallsSaid :=
  OpenClaim.holds_of_wide 3 Tryz.f3 rfl rfl rfl rfl rfl rfl rfl ⟨rfl, rfl, rfl, rfl, rfl⟩ rfl rfl rfl rfl rfl (by kernel_rfl) Tryz.func3 (by kernel_rfl)
    (of_decide_eq_true (by kernel_rfl)) (by unfold Func.isWrapper; first | (rw [if_pos (by decide +kernel)]; kernel_rfl) | (rw [if_neg (by decide +kernel)]; exact ⟨rfl, rfl⟩))
    (fun os started H enc _ => slotCalls_lifted os started H enc)
#print axioms slotCalls_holds
end Go.Proofs.YtdeajkopmkdilaaGreat
