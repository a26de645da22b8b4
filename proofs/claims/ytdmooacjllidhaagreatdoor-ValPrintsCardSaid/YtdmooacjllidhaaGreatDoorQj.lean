/-
  Values are printed and shown as the document says, and any text is read as the value that prints so, or refused: ValPrints answers true for any value and any text. Conditions: the library's tables and errors hold what its text lays.
-/
import Derived.Test.YtdmooacjllidhaaGreatDoorQk
import Derived.Test.YtdmooacjllidhaaGreatDoorJp
import Derived.Test.YtdmooacjllidhaaGreatDoorJc
set_option linter.unusedVariables false
set_option linter.unusedSimpArgs false
namespace Go.Proofs.YtdmooacjllidhaaGreatDoor
open Go.ChangeShapes Go.WideShapes Go.ChangeAt Go.RowKit
open Go.ChangeMaps (open_string)

set_option maxRecDepth 100000 in
theorem valPrints_lifted (os : Os) (started : os.Started) (H : Type) (enc : TypeId × Value → H) :
    ReturnsInHanded {} Tryz.checked os 12 .any (fun w args => (Rows.valPrintsSpec.pre enc Tryz.prog Tryz.f12 Rows.valPrintsRow.domain false w args ∧ laidMetH Tryz.prog Rows.valPrintsRow.laid w) ∧ sizedMet enc Tryz.prog Tryz.f12 (OpenSpec.ofChange Rows.valPrintsSpec) false w args)
      (Rows.valPrintsSpec.post enc Tryz.prog Tryz.f12 false true false false) := by
  refine tied_frame2 (C := Tryz.checked) (X := fun w _ => laidMetH Tryz.prog Rows.valPrintsRow.laid w) (fun _ _ _ hh h => h.of_heap hh) prog_own started (by kernel_rfl) Tryz.func12
    (ChangeSpec.witness_shaped (enc := enc) (C := Tryz.checked) (os := os) (X := fun w _ => laidMetH Tryz.prog Rows.valPrintsRow.laid w) false (World.laidAll Tryz.prog os Rows.valPrintsRow.laid) #[.agg #[.int .i64 0, .int .i64 0, .string ⟨#[]⟩], .string ⟨#[]⟩] 8 (World.laidAll_os _ _ _)
      (World.shaped_of_ZipB (by kernel_rfl) (by kernel_rfl)) (by kernel_rfl) (by kernel_rfl) (by kernel_rfl)
      (by rw [MakeChecks.laidMetH_plain _ _ _ plain_prints]; exact laidMet_laidAll _ (by kernel_rfl) (by kernel_rfl))) ?_
  intro W base args ds gs before hval0 hW hL hsh hwt
  have hval : ∀ (j : Nat) t v, Tryz.f12.params[j]? = some t → args[j]? = some v → Value.okWide Tryz.prog W .any base t v := hval0
  have hW' := hW
  obtain ⟨p, q, hA0, hV, rfl, hfz, hnd⟩ := hW
  have hA : DataW.TrodAll enc Tryz.prog W 0 (fun _ => true) true Tryz.f12.params.toList args.toList ds p := hA0
  rw [Tryz.params12] at hA hval
  obtain ⟨v0, vs0, d0, ds0, p0, q0, hargs, rfl, rfl, h0, r0⟩ := trodAll_cons hA
  obtain ⟨v1, vs1, d1, ds1, p1, q1, rfl, rfl, rfl, h1, r1⟩ := trodAll_cons r0
  obtain ⟨rfl, rfl, rfl⟩ := trodAll_nil r1
  obtain rfl : args = #[v0, v1] := by cases args; simp_all
  obtain ⟨rfl, rfl⟩ := trodVars_none hV
  obtain ⟨s1, rfl, hd1, hp1, w1⟩ := open_string Tryz.underlying9 (hval 1 9 v1 rfl rfl) h1
  obtain ⟨c0, c1, c2, y0, y1, y2, nf, rfl, hd0, -, e0, e1, e2⟩ := Go.Joins.open_agg3 Tryz.underlying67 (by kernel_rfl) (by kernel_rfl) (hval 0 67 v0 rfl rfl) h0
  obtain ⟨k0, rfl, -⟩ : ∃ k0, c0 = .int .i64 k0 ∧ True := by
    obtain ⟨z, h, _⟩ := DataW.trod_int Tryz.underlying3 e0
    exact ⟨z, by simpa using h, trivial⟩
  obtain ⟨n0, rfl, hn0⟩ : ∃ n0, c1 = .int .i64 n0 ∧ I64 n0 := by
    obtain ⟨z, h, _, hz⟩ := DataW.trod_int Tryz.underlying2 e1
    exact ⟨z, by simpa using h, bounds_i64 hz⟩
  obtain ⟨t0, rfl, hy2⟩ : ∃ t0, c2 = .string t0 ∧ y2.1 = .lit (.string t0.data.toList) := by
    obtain ⟨z, h, hx, _⟩ := DataW.trod_string Tryz.underlying9 e2
    exact ⟨z, by simpa using h, by rw [hx]⟩
  have ht : t0.size ≤ 140737488351232 := by
    have := List.all_eq_true.1 hwt _ (DataW.weights_mem_each (j := 0) (t := 67) rfl rfl t0.data.toList.length (by rw [hd0, hy2]; show _ ∈ DataW.weights Tryz.prog 67 _; simp [DataW.weights, DataW.weightsEach, Tryz.underlying67]))
    have h2 := of_decide_eq_true this
    unfold reachBytes at h2
    rw [size_list]
    omega
  have hs : s1.size ≤ 140737488351232 := by
    have := List.all_eq_true.1 hwt _ (DataW.weights_mem_each (j := 1) (t := 9) rfl rfl s1.data.toList.length (by rw [hd1]; simp [DataW.weights]))
    have h2 := of_decide_eq_true this
    unfold reachBytes at h2
    rw [size_list]
    omega
  clear hA0 hval0
  refine (prints_walk W (lay_of hL hsh) k0 n0 t0 s1 hn0 ht hs).mono fun e W' ⟨he, hc⟩ => ?_
  subst he
  exact ⟨_, rfl, law_end hW' rfl rfl rfl (by kernel_rfl) hc⟩

theorem valPrints_row : Rows.ValPrintsSaid :=
  OpenClaim.holds_of_wide 12 Tryz.f12 rfl rfl rfl rfl rfl rfl rfl ⟨rfl, rfl, rfl, rfl, rfl⟩ rfl rfl rfl rfl rfl (by kernel_rfl) Tryz.func12 valPrints_facts
    (of_decide_eq_true (by kernel_rfl)) (by unfold Func.isWrapper; first | (rw [if_pos (by decide +kernel)]; kernel_rfl) | (rw [if_neg (by decide +kernel)]; exact ⟨rfl, rfl⟩))
    (fun os started H enc _ => valPrints_lifted os started H enc)

theorem valPrints_wf : Rows.valPrintsRow.wfByText (OpenSpec.ofChange Rows.valPrintsSpec) = true := by kernel_rfl
theorem valPrints_goes : false = Rows.valPrintsRow.goesBy Tryz.pinned.checked.prog := by kernel_rfl
theorem valPrints_named : Tryz.prog.funcNamed "umlaut/umlautlaw11.ValPrints" = some 12 := by kernel_rfl
theorem valPrints_noStandIn : ([67, 9].all fun u => !Tryz.prog.wantsStandIn u) = true := by kernel_rfl

theorem valPrints_holds : Rows.ValPrintsCardSaid :=
  Claim7.holds_tied_plain_at .later [] [.data, .data, .data, .data, .sentinel, .sentinel, .pinned] true (true, "25f2b302c7f03a4d7fb69a10b5ec03943510664cf24fcc79f0532698449b74e6") true valPrints_row (fun _ h => by cases h) valPrints_wf (fun _ h => by cases h) valPrints_row_tie rfl ⟨rfl, rfl⟩ seat_main rfl
    (fun f fn hf hfn => by
      obtain rfl : f = 12 := Option.some.inj (valPrints_named.symm.trans hf) |>.symm
      obtain rfl : fn = Tryz.f12 := (Option.some.inj (Tryz.func12.symm.trans hfn)).symm
      exact ⟨seat_looks, fun j t ht => by
        rw [Tryz.params12] at ht
        have hm : t ∈ [67, 9] := by simpa using Array.mem_of_getElem? ht
        exact (show Tryz.prog.wantsStandIn t = false by simpa using List.all_eq_true.1 valPrints_noStandIn t hm)⟩)
    valPrints_goes
#print axioms valPrints_holds
end Go.Proofs.YtdmooacjllidhaaGreatDoor
