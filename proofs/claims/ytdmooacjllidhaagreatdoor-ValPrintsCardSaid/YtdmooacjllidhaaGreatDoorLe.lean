/-
  The end of a law's proof: the call returned true, and what was there is as it was. Conditions: none.
-/
import Derived.Test.YtdmooacjllidhaaGreatDoorRows
import Derived.Test.YtdmooacjllidhaaGreatDoorHp
import Derived.ProofKit
import Derived.OpenShut
import Derived.SizedLaws
set_option linter.unusedVariables false
set_option linter.unusedSimpArgs false
namespace Go.Proofs.YtdmooacjllidhaaGreatDoor
open Go.ChangeShapes Go.WideShapes Go.ChangeAt Go.RowKit

theorem prog_own : ownKnob Tryz.prog.godebug = none := by kernel_rfl
theorem prog_laid : laidOutB Tryz.prog = true := by kernel_rfl

/-- A list of types that all read back. -/
def Readable (P : Program) (ts : List TypeId) : Bool := ts.all fun t => P.readableRec t && decide (t < P.types.size)

theorem trodAll_below {H : Type} {enc : TypeId × Value → H} {P : Program} (hl : laidOutB P = true) {W W' : World} (hb : Below W.heap.size W W') :
    ∀ (ts : List TypeId) (vs : List Value) (ds : List (DataW H)) (ps : List MemPlace), Readable P ts = true → DataW.TrodAll enc P W 0 (fun _ => true) true ts vs ds ps → (∀ x ∈ ps, x.block < W.heap.size) →
      DataW.TrodAll enc P W' 0 (fun b => decide (b < W.heap.size)) true ts vs ds ps
  | [], vs, ds, ps, _, h, _ => by
    cases vs with
    | nil => cases ds with
      | nil => exact h
      | cons _ _ => exact h.elim
    | cons _ _ => cases ds <;> exact h.elim
  | t :: ts, vs, ds, ps, hr, h, hlt => by
    unfold Readable at hr
    rw [List.all_cons, Bool.and_eq_true, Bool.and_eq_true, decide_eq_true_eq] at hr
    obtain ⟨v, vs', d, ds', p, p', rfl, rfl, rfl, h0, h1⟩ := trodAll_cons h
    exact trodAll_cons_mk (Below.trod hl hr.1.1 hr.1.2 h0 hb fun x hx => hlt x (List.mem_append_left _ hx))
      (trodAll_below hl hb ts vs' ds' p' hr.2 h1 fun x hx => hlt x (List.mem_append_right _ hx))

theorem law_end {H : Type} {enc : TypeId × Value → H} {s : ChangeSpec} {f : Func} {W W' : World} {args : Array Value} {ds : List (DataW H)} {p : List MemPlace}
    (hW : DataW.Whole enc Tryz.prog f.params.toList s.vars false W args.toList ds [] p) (hv : s.vars = []) (hfn : s.fn H (ds ++ []) = { results := [.lit (.bool true)], args := ds }) (hres : f.resultTypes = #[4])
    (hr : Readable Tryz.prog f.params.toList = true) (hc : Chg (fun _ => False) W W') : s.post enc Tryz.checked.prog f false true false false W args (.bool true) W' := by
  have hb : Below W.heap.size W W' := ⟨hc.os, hc.tape, hc.output, hc.size, fun k hk => hc.block k hk id⟩
  have hlt : ∀ x ∈ p, x.block < W.heap.size := fun x hx => by simpa using hW.lt x hx
  have hW' := hW
  obtain ⟨p1, q1, hA, hV, rfl, _, _⟩ := hW
  rw [hv] at hV
  obtain ⟨-, rfl⟩ := trodVars_none hV
  rw [List.append_nil] at hlt hW'
  refine ⟨ds, [], p1, [], p1, [], hW', ?_, ?_, ?_, hb.frame _, fun h => by cases h⟩
  · rw [hfn, hres]
    exact trodAll_mk1 (shut_bool Tryz.underlying4 true)
  · rw [hfn]
    exact trodAll_below prog_laid hb _ _ _ _ hr hA hlt
  · rw [hfn, hv]; rfl
end Go.Proofs.YtdmooacjllidhaaGreatDoor
