/-
  Values are made as the document says: ValMakes answers true for any number, text, truth and raw value. Conditions: the library's tables hold what its text lays.
-/
import Derived.Test.YtdmooacjllidhaaGreatDoorVh
import Derived.Test.YtdmooacjllidhaaGreatDoorWr
import Derived.Test.YtdmooacjllidhaaGreatDoorLe
import Derived.Test.YtdmooacjllidhaaGreatDoorJf
import Derived.Test.YtdmooacjllidhaaGreatDoorJc
import Derived.Test.YtdmooacjllidhaaGreatDoorTie
import Derived.Test.YtdmooacjllidhaaGreatDoorCards
import Derived.Lib.SmallJoins
import Derived.Shelf.Vars
set_option linter.unusedVariables false
set_option linter.unusedSimpArgs false
namespace Go.Proofs.YtdmooacjllidhaaGreatDoor
open Go.ChangeShapes Go.WideShapes Go.ChangeAt Go.RowKit
open Go.ChangeMaps (open_string)

theorem maxlen_cell {W : World} (h : W.ShapedOpen Tryz.prog) : ∃ m, W.cell? ⟨2, 0, none⟩ = some (.int .i64 m) :=
  cell_of_shapedOpen_int (g := 2) (t := 3) (zero := #[.int .i64 0]) h (of_decide_eq_true (by kernel_rfl)) (by kernel_rfl) rfl (by kernel_rfl) (by kernel_rfl) Tryz.underlying3

set_option maxRecDepth 100000 in
theorem valMakes_lifted (os : Os) (started : os.Started) (H : Type) (enc : TypeId × Value → H) :
    ReturnsInHanded {} Tryz.checked os 6 .any (fun w args => (Rows.valMakesSpec.pre enc Tryz.prog Tryz.f6 Rows.valMakesRow.domain false w args ∧ laidMetH Tryz.prog Rows.valMakesRow.laid w) ∧ sizedMet enc Tryz.prog Tryz.f6 (OpenSpec.ofChange Rows.valMakesSpec) false w args)
      (Rows.valMakesSpec.post enc Tryz.prog Tryz.f6 false true false false) := by
  refine tied_frame (C := Tryz.checked) (X := fun w _ => laidMetH Tryz.prog Rows.valMakesRow.laid w) (fun _ _ _ hh h => h.of_heap hh) prog_own started (by kernel_rfl) Tryz.func6
    (ChangeSpec.witness_shaped (enc := enc) (C := Tryz.checked) (os := os) (X := fun w _ => laidMetH Tryz.prog Rows.valMakesRow.laid w) false (World.laidAll Tryz.prog os Rows.valMakesRow.laid) #[.int .i64 0, .string ⟨#[]⟩, .bool false, .agg #[.int .i64 0, .int .i64 0, .string ⟨#[]⟩]] 8 (World.laidAll_os _ _ _)
      (World.shaped_of_ZipB (by kernel_rfl) (by kernel_rfl)) (by kernel_rfl) (by kernel_rfl) (by kernel_rfl)
      (by rw [MakeChecks.laidMetH_plain _ _ _ (by kernel_rfl)]; exact laidMet_laidAll _ (by kernel_rfl) (by kernel_rfl))) ?_
  intro W base args ds gs before hval0 hW hL hsh
  have hval : ∀ (j : Nat) t v, Tryz.f6.params[j]? = some t → args[j]? = some v → Value.okWide Tryz.prog W .any base t v := hval0
  have hW' := hW
  obtain ⟨p, q, hA0, hV, rfl, hfz, hnd⟩ := hW
  have hA : DataW.TrodAll enc Tryz.prog W 0 (fun _ => true) true Tryz.f6.params.toList args.toList ds p := hA0
  rw [Tryz.params6] at hA hval
  obtain ⟨v0, vs0, d0, ds0, p0, q0, hargs, rfl, rfl, h0, r0⟩ := trodAll_cons hA
  obtain ⟨v1, vs1, d1, ds1, p1, q1, rfl, rfl, rfl, h1, r1⟩ := trodAll_cons r0
  obtain ⟨v2, vs2, d2, ds2, p2, q2, rfl, rfl, rfl, h2, r2⟩ := trodAll_cons r1
  obtain ⟨v3, vs3, d3, ds3, p3, q3, rfl, rfl, rfl, h3, r3⟩ := trodAll_cons r2
  obtain ⟨rfl, rfl, rfl⟩ := trodAll_nil r3
  obtain rfl : args = #[v0, v1, v2, v3] := by cases args; simp_all
  obtain ⟨rfl, rfl⟩ := trodVars_none hV
  obtain ⟨a0, rfl, hd0, hp0, w0⟩ := open_int Tryz.underlying2 (hval 0 2 v0 rfl rfl) h0
  obtain ⟨s1, rfl, hd1, hp1, w1⟩ := open_string Tryz.underlying9 (hval 1 9 v1 rfl rfl) h1
  obtain ⟨b2, rfl, hd2, hp2⟩ := open_bool Tryz.underlying4 (hval 2 4 v2 rfl rfl) h2
  obtain ⟨c0, c1, c2, y0, y1, y2, nf, rfl, -, -, e0, e1, e2⟩ := Go.Joins.open_agg3 Tryz.underlying67 (by kernel_rfl) (by kernel_rfl) (hval 3 67 v3 rfl rfl) h3
  obtain ⟨k0, rfl, -⟩ : ∃ k0, c0 = .int .i64 k0 ∧ True := by
    obtain ⟨z, h, _⟩ := DataW.trod_int Tryz.underlying3 e0
    exact ⟨z, by simpa using h, trivial⟩
  obtain ⟨n0, rfl, -⟩ : ∃ n0, c1 = .int .i64 n0 ∧ True := by
    obtain ⟨z, h, _⟩ := DataW.trod_int Tryz.underlying2 e1
    exact ⟨z, by simpa using h, trivial⟩
  obtain ⟨t0, rfl, -⟩ : ∃ t0, c2 = .string t0 ∧ True := by
    obtain ⟨z, h, _⟩ := DataW.trod_string Tryz.underlying9 e2
    exact ⟨z, by simpa using h, trivial⟩
  clear hA0 hval0
  obtain ⟨m, hm⟩ := maxlen_cell hsh
  refine (makes_walk W m hm a0 s1 b2 k0 n0 t0).mono fun e W' ⟨he, hc⟩ => ?_
  subst he
  exact ⟨_, rfl, law_end hW' rfl rfl rfl (by kernel_rfl) hc⟩

theorem valMakes_row : Rows.ValMakesSaid :=
  OpenClaim.holds_of_wide 6 Tryz.f6 rfl rfl rfl rfl rfl rfl rfl ⟨rfl, rfl, rfl, rfl, rfl⟩ rfl rfl rfl rfl rfl (by kernel_rfl) Tryz.func6 valMakes_facts
    (of_decide_eq_true (by kernel_rfl)) (by unfold Func.isWrapper; first | (rw [if_pos (by decide +kernel)]; kernel_rfl) | (rw [if_neg (by decide +kernel)]; exact ⟨rfl, rfl⟩))
    (fun os started H enc _ => valMakes_lifted os started H enc)

theorem valMakes_wf : Rows.valMakesRow.wfByText (OpenSpec.ofChange Rows.valMakesSpec) = true := by kernel_rfl
theorem valMakes_goes : false = Rows.valMakesRow.goesBy Tryz.pinned.checked.prog := by kernel_rfl
theorem valMakes_named : Tryz.prog.funcNamed "umlaut/umlautlaw11.ValMakes" = some 6 := by kernel_rfl
theorem valMakes_noStandIn : ([2, 9, 4, 67].all fun u => !Tryz.prog.wantsStandIn u) = true := by kernel_rfl

theorem valMakes_holds : Rows.ValMakesCardSaid :=
  Claim7.holds_tied_plain_at .later [] [.data, .data, .data, .data, .pinned] true (true, "25f2b302c7f03a4d7fb69a10b5ec03943510664cf24fcc79f0532698449b74e6") true valMakes_row (fun _ h => by cases h) valMakes_wf (fun _ h => by cases h) valMakes_row_tie rfl ⟨rfl, rfl⟩ seat_main rfl
    (fun f fn hf hfn => by
      obtain rfl : f = 6 := Option.some.inj (valMakes_named.symm.trans hf) |>.symm
      obtain rfl : fn = Tryz.f6 := (Option.some.inj (Tryz.func6.symm.trans hfn)).symm
      exact ⟨seat_looks, fun j t ht => by
        rw [Tryz.params6] at ht
        have hm : t ∈ [2, 9, 4, 67] := by simpa using Array.mem_of_getElem? ht
        exact (show Tryz.prog.wantsStandIn t = false by simpa using List.all_eq_true.1 valMakes_noStandIn t hm)⟩)
    valMakes_goes
#print axioms valMakes_holds
end Go.Proofs.YtdmooacjllidhaaGreatDoor
