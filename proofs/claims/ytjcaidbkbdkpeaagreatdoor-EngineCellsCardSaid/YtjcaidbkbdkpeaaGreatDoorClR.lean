/- EngineCells holds: whatever the cells, the call answers true and leaves them as they were; and its card. -/
import Derived.Test.YtjcaidbkbdkpeaaGreatDoorSeat
import Derived.Test.YtjcaidbkbdkpeaaGreatDoorClL
import Derived.Test.YtjcaidbkbdkpeaaGreatDoorCards
import Derived.Test.YtjcaidbkbdkpeaaGreatDoorTie
namespace Go.Proofs.YtjcaidbkbdkpeaaGreatDoor
open Go Go.ChangeShapes Go.WideShapes Go.ChangeAt Go.RowKit Go.Rh

set_option maxRecDepth 100000 in
theorem cells_lifted (os : Os) (started : os.Started) (H : Type) (enc : TypeId × Value → H) :
    ReturnsInHanded {} Tryz.checked os 3 .any (fun w args => (Rows.engineCellsSpec.pre enc Tryz.prog Tryz.f3 [] false w args ∧ laidMetH Tryz.prog Rows.engineCellsRow.laid w) ∧ sizedMet enc Tryz.prog Tryz.f3 (OpenSpec.ofChange Rows.engineCellsSpec) false w args)
      (Rows.engineCellsSpec.post enc Tryz.prog Tryz.f3 false true false false) := by
  refine returnsInHanded_of_change_and_shaped (C := Tryz.checked) (X := fun w _ => laidMetH Tryz.prog Rows.engineCellsRow.laid w) seat_own started (by kernel_rfl) Tryz.func3
    (ChangeSpec.witness_shaped (enc := enc) (C := Tryz.checked) (os := os) (X := fun w _ => laidMetH Tryz.prog Rows.engineCellsRow.laid w) false (World.laidAll Tryz.prog os Rows.engineCellsRow.laid) #[.slice none 0 0] 8 (World.laidAll_os _ _ _)
      (World.shaped_of_ZipB (by kernel_rfl) (by kernel_rfl)) (by kernel_rfl) (by kernel_rfl) (by kernel_rfl) (door_met os _)) ?_
  intro W base args ds gs before hval0 hW hsh
  have hval : ∀ (j : Nat) t v, Tryz.f3.params[j]? = some t → args[j]? = some v → Value.okWide Tryz.prog W .any base t v := hval0
  have hW' := hW
  obtain ⟨p, q, hA0, hV, rfl, _, _⟩ := hW
  have hA : DataW.TrodAll enc Tryz.prog W 0 (fun _ => true) true Tryz.f3.params.toList args.toList ds p := hA0
  rw [Tryz.params3] at hA hval
  obtain ⟨v0, d0, rfl, rfl, h0⟩ := trodAll_one hA
  obtain ⟨rfl, rfl⟩ := trodVars_none hV
  simp only [List.append_nil] at hW'
  have hlt : ∀ x ∈ p, x.block < W.heap.size := fun x hx => by simpa using hW'.lt x hx
  obtain ⟨l, hl⟩ := came_of ⟨base, hval 0 22 v0 rfl rfl⟩ h0 hlt
  refine (law_Cells W o0 (wf0 W) (env0 hsh) v0 l hl).mono fun e W' ⟨he, o', hm⟩ => ?_
  subst he
  have hb := below_of_mod hm
  exact ⟨_, rfl, _, _, _, [], p, [], hW', trodAll_mk1 (shut_bool Tryz.underlying4 _), trodAll_mk1 (Below.trod seat_laidOut (by kernel_rfl) (of_decide_eq_true (by kernel_rfl)) h0 hb hlt), rfl, hb.frame _, fun h => by cases h⟩

theorem cells_named : Tryz.pinned.checked.prog.funcNamed Rows.engineCellsRow.func = some 3 := by kernel_rfl
theorem cells_inst : Tryz.f3.isInstance Tryz.pinned.checked.prog Rows.engineCellsRow.origin Rows.engineCellsRow.targs := of_decide_eq_true (by kernel_rfl)
theorem cells_wrap : Tryz.f3.isWrapper Tryz.pinned.checked.prog Rows.engineCellsRow.wrapper Rows.engineCellsRow.mainSum := by unfold Func.isWrapper; first | (rw [if_pos (by decide +kernel)]; kernel_rfl) | (rw [if_neg (by decide +kernel)]; exact ⟨rfl, rfl⟩)
theorem cells_facts : joinedFacts Tryz.pinned.checked.prog 3 Tryz.f3 Rows.engineCellsSpec Rows.engineCellsRow = true := by kernel_rfl
theorem cells_holds : Rows.EngineCellsSaid :=
  OpenClaim.holds_of_wide 3 Tryz.f3 rfl rfl rfl rfl rfl rfl rfl ⟨rfl, rfl, rfl, rfl, rfl⟩ rfl rfl rfl rfl rfl cells_named Tryz.func3 cells_facts cells_inst cells_wrap
    (fun os started H enc _ => cells_lifted os started H enc)

theorem cells_wf : Rows.engineCellsRow.wfByText (OpenSpec.ofChange Rows.engineCellsSpec) = true := by kernel_rfl
theorem cells_goes : false = Rows.engineCellsRow.goesBy Tryz.pinned.checked.prog := by kernel_rfl

theorem cells_card : Rows.EngineCellsCardSaid :=
  Claim7.holds_tied_plain_at .later [] [.data, .data, .data, .data, .pinned] true (true, "35db2092aedd6a5cda3015d4ad0ce36065098a63244b825d3a6b2c5ceda3a062") false
    cells_holds (fun _ h => by cases h) cells_wf (fun _ h => by cases h) engineCells_row_tie rfl ⟨rfl, rfl⟩ seatMain rfl
    (fun f fn hf hfn => by
      obtain rfl : f = 3 := Option.some.inj (cells_named.symm.trans hf) |>.symm
      obtain rfl : fn = Tryz.f3 := (Option.some.inj (Tryz.func3.symm.trans hfn)).symm
      exact ⟨seatLooks, fun j t ht => by
        rw [Tryz.params3] at ht
        have hm : t ∈ [22, 27, 5] := List.mem_append_left [27, 5] (by simpa using Array.mem_of_getElem? ht : t ∈ [22])
        exact (show Tryz.pinned.checked.prog.wantsStandIn t = false by simpa using List.all_eq_true.1 seatStand t hm)⟩)
    cells_goes
#print axioms cells_card
end Go.Proofs.YtjcaidbkbdkpeaaGreatDoor
