/- An instruction's kind, and what may come behind it. -/
import Derived.Test.YtjcaidbkbdkpeaaGreatDoorRep
import Derived.Test.YtjcaidbkbdkpeaaGreatDoorExit
namespace Go.Proofs.YtjcaidbkbdkpeaaGreatDoor
open Go Go.RowKit Go.Rh

/-- The instructions of which these statements have any: no loops, no locals. -/
def Plain (op : Int) : Prop := op = 1 ∨ op = 2 ∨ op = 3 ∨ op = 4 ∨ op = 10 ∨ op = 11 ∨ op = 15

def kindOf (op : Int) : Int := if op = 3 ∨ op = 4 ∨ op = 10 then 1 else if op = 2 then 2 else 0

set_option maxHeartbeats 1000000 in
theorem ins_kind (w : World) (op : Int) (hop : Plain op) :
    Calls Tryz.prog 59 #[.int .u8 op] w fun e w' => e = .returned (.int .i64 (kindOf op)) ∧ w' = w := by
  rcases hop with rfl | rfl | rfl | rfl | rfl | rfl | rfl
  all_goals
    simp only [kindOf]
    simp only [Int.reduceEq, or_true, or_false, false_or, true_or, if_true, if_false]
    go_enter Tryz.func59, Tryz.ntmps59
    go_wp2
    go_ret
    exact ⟨rfl, rfl⟩

/-- Where it goes on. -/
def nexts (op a at_ : Int) : List Int := if op = 15 then [] else if op = 3 then [a] else if op = 4 ∨ op = 10 then [at_ + 1, a] else [at_ + 1]
def stepC (i : Int) : List Value := [cv i, cv 0]

theorem Rd.new' {W : World} {o : Owner} {size : Nat} {cs : List Value} {e : TypeId} {n B : Nat} (hs : W.heap.size = B) (hl : cs.length = n * size) (hm : n ≤ maxLen) (hwf : Wf W o) :
    Rd (W.alloc (.cells cs.toArray e)) o 0 size (.slice (some ⟨B, 0, none⟩) n n) n cs := by
  subst hs; exact Rd.new W o cs e n hl hm hwf

set_option maxHeartbeats 2000000 in
set_option maxRecDepth 100000 in
theorem ins_steps (w : World) (o : Owner) (hwf : Wf w o) (op a x : Int) (at_ : Nat) (hat : at_ ≤ 1000) (hop : Plain op) :
    Calls Tryz.prog 92 #[insV op a x, .int .i64 at_, .int .i64 0] w fun e w' => ∃ v, e = .returned v ∧ Mod (fun _ => False) w o w' o ∧ Rd w' o 0 2 v (nexts op a at_).length ((nexts op a at_).flatMap stepC) := by
  have w1 : IntKind.i64.wrap ((at_ : Int) + 1) = (at_ : Int) + 1 := IntWalk.i64_in _ (by omega)
  rcases hop with rfl | rfl | rfl | rfl | rfl | rfl | rfl
  all_goals
    simp only [nexts, Int.reduceEq, or_true, or_false, false_or, true_or, if_true, if_false, List.length_cons, List.length_nil, List.flatMap_cons, List.flatMap_nil, List.append_nil, stepC, Nat.zero_add]
    go_enter Tryz.func92, Tryz.ntmps92
    go_wp2_with fail
    go_region
    all_goals
      go_wp2
      go_ret
      refine ⟨_, rfl, ?_, ?_⟩
      · (repeat (first | refine Mod.alloc ?_ _ | refine Mod.drew ?_))
        exact Mod.refl _ hwf
      · first
          | exact Rd.nil _ _ _ _
          | (refine Rd.drew ?_
             exact Rd.new' (by simp) rfl (by decide) (show Mod (fun _ => False) w o _ o from by
               (repeat (refine Mod.alloc ?_ _))
               exact Mod.refl _ hwf).wf)
          | exact Rd.new' (by simp) rfl (by decide) (show Mod (fun _ => False) w o _ o from by
               (repeat (refine Mod.alloc ?_ _))
               exact Mod.refl _ hwf).wf
end Go.Proofs.YtjcaidbkbdkpeaaGreatDoor
