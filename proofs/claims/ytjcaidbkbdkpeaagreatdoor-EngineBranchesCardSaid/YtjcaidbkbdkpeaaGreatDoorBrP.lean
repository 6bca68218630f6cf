/- EngineBranches holds: whatever the cells, the call answers true and leaves them as they were; and its card. -/
import Derived.Test.YtjcaidbkbdkpeaaGreatDoorRow
import Derived.Test.YtjcaidbkbdkpeaaGreatDoorCards
import Derived.Test.YtjcaidbkbdkpeaaGreatDoorTie
namespace Go.Proofs.YtjcaidbkbdkpeaaGreatDoor
open Go Go.ChangeShapes Go.WideShapes Go.ChangeAt Go.RowKit Go.Rh

set_option maxRecDepth 100000 in
theorem branches_lifted (os : Os) (started : os.Started) (H : Type) (enc : TypeId × Value → H) :
    ReturnsInHanded {} Tryz.checked os 4 .any (fun w args => (Rows.engineBranchesSpec.pre enc Tryz.prog Tryz.f4 [] false w args ∧ laidMetH Tryz.prog Rows.engineBranchesRow.laid w) ∧ sizedMet enc Tryz.prog Tryz.f4 (OpenSpec.ofChange Rows.engineBranchesSpec) false w args)
      (Rows.engineBranchesSpec.post enc Tryz.prog Tryz.f4 false true false false) := by
  refine returnsInHanded_of_change_and_shaped (C := Tryz.checked) (X := fun w _ => laidMetH Tryz.prog Rows.engineBranchesRow.laid w) seat_own started (by kernel_rfl) Tryz.func4
    (ChangeSpec.witness_shaped (enc := enc) (C := Tryz.checked) (os := os) (X := fun w _ => laidMetH Tryz.prog Rows.engineBranchesRow.laid w) false (World.laidAll Tryz.prog os Rows.engineBranchesRow.laid) #[.slice none 0 0] 8 (World.laidAll_os _ _ _)
      (World.shaped_of_ZipB (by kernel_rfl) (by kernel_rfl)) (by kernel_rfl) (by kernel_rfl) (by kernel_rfl) (door_met os _)) ?_
  intro W base args ds gs before hval0 hW hsh
  have hval : ∀ (j : Nat) t v, Tryz.f4.params[j]? = some t → args[j]? = some v → Value.okWide Tryz.prog W .any base t v := hval0
  have hW' := hW
  obtain ⟨p, q, hA0, hV, rfl, _, _⟩ := hW
  have hA : DataW.TrodAll enc Tryz.prog W 0 (fun _ => true) true Tryz.f4.params.toList args.toList ds p := hA0
  rw [Tryz.params4] at hA hval
  obtain ⟨v0, d0, rfl, rfl, h0⟩ := trodAll_one hA
  obtain ⟨rfl, rfl⟩ := trodVars_none hV
  simp only [List.append_nil] at hW'
  have hlt : ∀ x ∈ p, x.block < W.heap.size := fun x hx => by simpa using hW'.lt x hx
  obtain ⟨l, hl⟩ := came_of ⟨base, hval 0 22 v0 rfl rfl⟩ h0 hlt
  refine (law_Branches W o0 (wf0 W) (env0 hsh) v0 l hl).mono fun e W' ⟨he, o', hm⟩ => ?_
  subst he
  have hb := below_of_mod hm
  exact ⟨_, rfl, _, _, _, [], p, [], hW', trodAll_mk1 (shut_bool Tryz.underlying4 _), trodAll_mk1 (Below.trod seat_laidOut (by kernel_rfl) (of_decide_eq_true (by kernel_rfl)) h0 hb hlt), rfl, hb.frame _, fun h => by cases h⟩

theorem branches_named : Tryz.pinned.checked.prog.funcNamed Rows.engineBranchesRow.func = some 4 := by kernel_rfl
theorem branches_inst : Tryz.f4.isInstance Tryz.pinned.checked.prog Rows.engineBranchesRow.origin Rows.engineBranchesRow.targs := of_decide_eq_true (by kernel_rfl)
theorem branches_wrap : Tryz.f4.isWrapper Tryz.pinned.checked.prog Rows.engineBranchesRow.wrapper Rows.engineBranchesRow.mainSum := by unfold Func.isWrapper; first | (rw [if_pos (by decide +kernel)]; kernel_rfl) | (rw [if_neg (by decide +kernel)]; exact ⟨rfl, rfl⟩)
theorem branches_facts : joinedFacts Tryz.pinned.checked.prog 4 Tryz.f4 Rows.engineBranchesSpec Rows.engineBranchesRow = true := by kernel_rfl
theorem branches_holds : Rows.EngineBranchesSaid :=
  OpenClaim.holds_of_wide 4 Tryz.f4 rfl rfl rfl rfl rfl rfl rfl ⟨rfl, rfl, rfl, rfl, rfl⟩ rfl rfl rfl rfl rfl branches_named Tryz.func4 branches_facts branches_inst branches_wrap
    (fun os started H enc _ => branches_lifted os started H enc)

theorem branches_wf : Rows.engineBranchesRow.wfByText (OpenSpec.ofChange Rows.engineBranchesSpec) = true := by kernel_rfl
theorem seat_main : Tryz.pinned.checked.prog.mainIs = some (true, "35db2092aedd6a5cda3015d4ad0ce36065098a63244b825d3a6b2c5ceda3a062".toList) := by kernel_rfl
theorem seat_looks : false = Tryz.pinned.checked.prog.looks [] := by kernel_rfl
theorem branches_goes : false = Rows.engineBranchesRow.goesBy Tryz.pinned.checked.prog := by kernel_rfl
theorem branches_stand : ([22].all fun u => !Tryz.pinned.checked.prog.wantsStandIn u) = true := by kernel_rfl

theorem branches_card : Rows.EngineBranchesCardSaid :=
  Claim7.holds_tied_plain_at .later [] [.data, .data, .data, .data, .pinned] true (true, "35db2092aedd6a5cda3015d4ad0ce36065098a63244b825d3a6b2c5ceda3a062") false
    branches_holds (fun _ h => by cases h) branches_wf (fun _ h => by cases h) engineBranches_row_tie rfl ⟨rfl, rfl⟩ seat_main rfl
    (fun f fn hf hfn => by
      obtain rfl : f = 4 := Option.some.inj (branches_named.symm.trans hf) |>.symm
      obtain rfl : fn = Tryz.f4 := (Option.some.inj (Tryz.func4.symm.trans hfn)).symm
      exact ⟨seat_looks, fun j t ht => by
        rw [Tryz.params4] at ht
        have hm : t ∈ [22] := by simpa using Array.mem_of_getElem? ht
        exact (show Tryz.pinned.checked.prog.wantsStandIn t = false by simpa using List.all_eq_true.1 branches_stand t hm)⟩)
    branches_goes
#print axioms branches_card
end Go.Proofs.YtjcaidbkbdkpeaaGreatDoor
