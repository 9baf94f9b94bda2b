/- The last step of a law's row, whatever the program: the arguments read behind the call as they read before, since nothing old has turned. -/
import Derived.WalkKit
import Derived.ProofKit
import Derived.OpenShut
import Derived.Below
import Derived.ChangeSame
import Derived.WideKeyArgs
import Derived.Deep.Slices
import Derived.Test.YtdeajkopmkdilaaGreatMemIn
open Go Go.RowKit Go.WideShapes Go.ChangeShapes
namespace Go.Proofs.YtdeajkopmkdilaaGreat
section
variable {H : Type} {enc : TypeId × Value → H} {P : Program}
/-- Is every type of a list read, and of the table? -/
def tsOk (P : Program) (ts : List TypeId) : Bool := ts.all fun t => P.readableRec t && decide (t < P.types.size)
theorem trodAll_stays (hl : laidOutB P = true) {W W' : World} {sp : Nat → Bool} : ∀ {ts : List TypeId} {vs : List Value} {ds : List (DataW H)} {ps : List MemPlace}, tsOk P ts = true → DataW.TrodAll enc P W 0 (fun _ => true) true ts vs ds ps →
    (∀ p ∈ ps, W.sameAt W' p) → (∀ p ∈ ps, sp p.block = true) → DataW.TrodAll enc P W' 0 sp true ts vs ds ps
  | [], [], [], _, _, h, _, _ => h
  | t :: ts, _ :: _, _ :: _, _, hT, ⟨p, q, h1, h2, e⟩, hs, hsp => by
    unfold tsOk at hT
    simp only [List.all_cons, Bool.and_eq_true, decide_eq_true_eq] at hT
    subst e
    exact ⟨p, q, WideElems.Trod_stays hl hT.1.1 hT.1.2 h1 (fun x hx => hs x (List.mem_append_left _ hx)) (fun x hx => hsp x (List.mem_append_left _ hx)),
      trodAll_stays hl hT.2 h2 (fun x hx => hs x (List.mem_append_right _ hx)) (fun x hx => hsp x (List.mem_append_right _ hx)), rfl⟩
/-- A law's row: it has answered true, and nothing old has turned. -/
theorem law_post {f : Func} {s : ChangeSpec} {apart fresh : Bool} {W W' : World} {args : Array Value} {tb : TypeId} {ds gs : List (DataW H)} {before : List MemPlace}
    (hl : laidOutB P = true) (hts : tsOk P f.params.toList = true) (hb : P.underlying tb = some .bool) (hres : f.resultTypes = #[tb]) (hvars : s.vars = [])
    (hW : DataW.Whole enc P f.params.toList s.vars apart W args.toList ds gs before)
    (hs : (s.fn H (ds ++ gs)) = { results := [.lit (.bool true)], args := ds }) (hbel : Below W.heap.size W W') :
    s.post enc P f apart fresh false false W args (.bool true) W' := by
  have hW0 := hW
  obtain ⟨p, q, hA, hV, rfl, hz, hn⟩ := hW
  have hV' := hV
  rw [hvars] at hV'
  obtain ⟨rfl, rfl⟩ := trodVars_none hV'
  have hlt : ∀ x ∈ p ++ [], x.block < W.heap.size := fun x hx => hW0.lt x hx
  simp only [List.append_nil] at hlt
  have hargs : ∀ sp : Nat → Bool, (∀ x ∈ p, sp x.block = true) → DataW.TrodAll enc P W' 0 sp true f.params.toList args.toList (s.fn H (ds ++ [])).args p := fun sp hsp => by
    rw [hs]
    exact trodAll_stays hl hts hA (fun x hx => hbel.same (hlt x hx)) hsp
  have hvs : ∀ sp : Nat → Bool, DataW.TrodVars enc P W' sp s.vars (s.fn H (ds ++ [])).vars [] := fun sp => by rw [hs, hvars]; rfl
  have hrs : ∀ (b : Nat) (sp : Nat → Bool) (hd : Bool), DataW.TrodAll enc P W' b sp hd f.resultTypes.toList ((Value.bool true).resultList f.resultTypes.size) (s.fn H (ds ++ [])).results [] := fun b sp hd => by
    rw [hs, hres]
    exact trodAll_cons_mk (shut_bool hb true) trodAll_mk0
  have hold : ∀ x ∈ p, (fun b => decide (b < W.heap.size)) x.block = true := fun x hx => by simpa using hlt x hx
  refine ⟨ds, [], p ++ [], [], p, [], hW0, hrs _ _ _, hargs _ hold, hvs _, World.keptBut_mono (fun x hx => ⟨hx, .inr (by simpa using hx)⟩) (hbel.frame (· ∈ p ++ [])), fun _ => ?_⟩
  refine ⟨?_, _, _, ([] ++ p) ++ [], ⟨[] ++ p, [], trodAll_append (hargs _ (fun _ _ => rfl)) (hrs _ _ _), hvs _, rfl, ?_, ?_⟩, ?_⟩
  · intro j t r h1 h2
    rw [hres] at h1 h2
    match j with
    | 0 =>
      simp only [List.getElem?_toArray, List.getElem?_cons_zero, Option.some.injEq] at h1
      subst h1
      have : r = .bool true := by simpa [Value.resultList] using h2.symm
      subst this
      exact okWide_bool_mk hb true
    | j + 1 => simp at h1
  · intro b off hp
    have hin : MemPlace.cell b off ∈ p := by simpa using hp
    rw [hbel.frozen (hlt _ hin)]
    exact hz b off (by simpa using hin)
  · intro ha
    simpa using hn ha
  · intro x hx _
    simpa using hx
end
end Go.Proofs.YtdeajkopmkdilaaGreat
