/- What every row of this seat wants: the witness's world, the library's variable, what came in. -/
import Derived.Test.YtjcaidbkbdkpeaaGreatDoorRows
import Derived.Test.YtjcaidbkbdkpeaaGreatDoorBrL
import Derived.ProofKit
import Derived.Lay
import Derived.LaidOnce
import Derived.SevenTiedAt
import Derived.HandedShaped
import Derived.Shelf.Vars
import Derived.OpenShut
namespace Go.Proofs.YtjcaidbkbdkpeaaGreatDoor
open Go Go.ChangeShapes Go.WideShapes Go.ChangeAt Go.RowKit Go.Rh

theorem seat_own : ownKnob Tryz.prog.godebug = none := by kernel_rfl
theorem seat_laidOut : laidOutB Tryz.prog = true := by kernel_rfl

/-- The wrap with a condition on what is laid, the world's shape kept. -/
theorem returnsInHanded_of_change_and_shaped {H : Type} {enc : TypeId × Value → H} {a : Assume} {C : Checked} {os : Os} {f : FuncId} {fn : Func} {s : ChangeSpec} {conds : List PathCond} {apart fresh handsOn again : Bool} {X : World → Array Value → Prop}
    (own : ownKnob C.prog.godebug = none) (started : os.Started) (noInit : C.prog.inits.idxOf? f = none) (hfn : C.prog.funcs[f]? = some fn)
    (witness : ∃ (w : World) (tape : Tape) (i : Input), w.os = os ∧ (w.forCall tape i).Shaped C.prog ∧ i.vars = [] ∧ Input.okWide C.prog (w.forCall tape i) .any w.heap.size f i ∧
      ((s.pre enc C.prog fn conds apart (w.forCall tape i).memory i.args ∧ X (w.forCall tape i).memory i.args) ∧ sizedMet enc C.prog fn (OpenSpec.ofChange s) apart (w.forCall tape i).memory i.args) ∧ a.holds C.prog (lone (Frame.enter C.prog f i.args .normal) [] (w.forCall tape i)))
    (contract : ∀ (W : World) (base : Nat) (args : Array Value) (ds gs : List (DataW H)) (before : List MemPlace),
      (∀ (j : Nat) t v, fn.params[j]? = some t → args[j]? = some v → Value.okWide C.prog W .any base t v) →
      DataW.Whole enc C.prog fn.params.toList s.vars apart W args.toList ds gs before →
      W.ShapedOpen C.prog →
      Calls C.prog f args W fun e W' => ∃ v, e = .returned v ∧ s.post enc C.prog fn apart fresh handsOn again W args v W') :
    ReturnsInHanded a C os f .any (fun w args => (s.pre enc C.prog fn conds apart w args ∧ X w args) ∧ sizedMet enc C.prog fn (OpenSpec.ofChange s) apart w args) (s.post enc C.prog fn apart fresh handsOn again) := by
  refine returnsInHanded_of_calls own started noInit witness ?_
  intro w tape i _ hsh _ hok hpre hholds
  obtain ⟨_, _, _, fn', hfn', _, _, _, _, hval⟩ := hok
  have e : fn' = fn := Option.some.inj (hfn'.symm.trans hfn)
  subst e
  obtain ⟨⟨⟨ds, gs, before, hw, hc⟩, hx⟩, hz⟩ := hpre
  have hw' := DataW.Whole.of_heap (w' := w.forCall tape i) (by rfl) hw
  refine (contract (w.forCall tape i) w.heap.size i.args ds gs before hval hw' hsh).mono fun e W' ⟨v, he, hp⟩ => ?_
  subst he
  exact ChangeSpec.post_blind hp

/-- Nobody owns anything when the call begins. -/
def o0 : Owner := fun _ => 0
theorem wf0 (W : World) : Wf W o0 := fun _ _ => rfl
theorem env0 {W : World} (h : W.ShapedOpen Tryz.prog) : Env W o0 := by
  have hc := cell_of_shapedOpen_int (g := 3) (t := 3) (zero := #[.int .i64 0]) (k := .i64) h (of_decide_eq_true (by kernel_rfl)) (by kernel_rfl) rfl (by kernel_rfl) (by kernel_rfl) Tryz.underlying3
  refine ⟨rfl, ?_, hc⟩
  obtain ⟨m, hm⟩ := hc
  rcases Nat.lt_or_ge 3 W.heap.size with h3 | h3
  · exact h3
  · unfold World.cell? at hm
    rw [Array.getElem?_eq_none h3] at hm
    cases hm
theorem below_of_mod {W W' : World} {o o' : Owner} (m : Mod (fun _ => False) W o W' o') : Below W.heap.size W W' := ⟨m.os, m.tape, m.output, m.size, fun b hb => m.keep b hb (fun h => h)⟩

set_option maxRecDepth 100000 in
/-- The witness's world bears all that is listed. -/
theorem door_met (os : Os) (args : Array Value) : laidMetH Tryz.prog Rows.engineBranchesRow.laid ((World.laidAll Tryz.prog os Rows.engineBranchesRow.laid).forCall (fun _ _ => 0) ⟨#[], args, []⟩).memory := by
  rw [MakeChecks.laidMetH_plain _ _ _ (by kernel_rfl)]
  exact laidMet_laidAll _ (by kernel_rfl) (by kernel_rfl)

theorem cells_cell : Tryz.prog.cellsOf 27 = 1 := by kernel_rfl
set_option maxRecDepth 100000 in
/-- A slice of cells that came in. -/
theorem came_of {H : Type} {enc : TypeId × Value → H} {W : World} {v : Value} {d : DataW H} {p : List MemPlace} (hv : ∃ base, Value.okWide Tryz.prog W .any base 22 v) (h : DataW.Trod enc Tryz.prog W 0 (fun _ => true) true 22 v d p) (hlt : ∀ x ∈ p, x.block < W.heap.size) : ∃ l, Came W v l := by
  obtain ⟨base, hv⟩ := hv
  obtain ⟨a0, len, cap, rfl⟩ := okWide_slice Tryz.underlying22 hv
  obtain ⟨fuel, hf⟩ := h
  rcases open_ints Tryz.underlying22 Tryz.underlying27 cells_cell hf with ⟨hcs, hx⟩ | ⟨a, len', cap', zs, hcs, _, hl, hm, hz, hx, hcell, hwz⟩
  · simp [Value.cells] at hcs
    obtain ⟨rfl, rfl, rfl⟩ := hcs
    exact ⟨[], .inl ⟨rfl, rfl⟩⟩
  · simp [Value.cells] at hcs
    obtain ⟨rfl, rfl, rfl⟩ := hcs
    simp only [if_true] at hz
    have hlen : (zs.take len).length = len := by rw [List.length_take, hz]; omega
    refine ⟨zs.take len, .inr ⟨a, cap, by rw [hlen], by rw [hlen]; exact hl, hm, fun hp => ?_, fun i hi => ?_⟩⟩
    · rw [hlen] at hp
      have h0 := hcell 0 (by omega)
      rcases Nat.lt_or_ge (a.add 0).block W.heap.size with h3 | h3
      · rwa [Addr.add_block] at h3
      · unfold World.cell? at h0
        rw [Array.getElem?_eq_none h3] at h0
        cases h0
    · rw [hlen] at hi
      rw [hcell i (by omega)]
      show some (Value.int .i64 _) = some (Value.int .i64 _)
      rw [List.getD_eq_getElem?_getD, List.getD_eq_getElem?_getD, List.getElem?_take_of_lt hi]
end Go.Proofs.YtjcaidbkbdkpeaaGreatDoor
