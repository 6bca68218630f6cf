/- An instruction. -/
import Derived.Test.YtjcaidbkbdkpeaaGreatDoorDoes
namespace Go.Proofs.YtjcaidbkbdkpeaaGreatDoor
open Go Go.RowKit Go.Rh

structure In1 where
  op : Int
  a : Int
  x : Int
deriving DecidableEq, Inhabited
def In1.cells (i : In1) : List Value := insL i.op i.a i.x
theorem In1.cells_length (i : In1) : i.cells.length = 3 := rfl

/-- Nothing but an append. -/
theorem guard_append {P : Program} {ops : Array Oper} {o : Oper} {a : Act} {w : World} {K : Act → World → Prop} {Q : Exit → Act → World → Prop} {E : Prop} {s x : Operand} {t t' : TypeId}
    (_ : o.op = .call { callee := .builtin .append, args := #[s, x], argTypes := #[t, t'] }) (h : if Region.wanted o (yielded ops a.tmps) = true then Oper.wp P o a w K Q else E) :
    if Region.wanted o (yielded ops a.tmps) = true then Oper.wp P o a w K Q else E := h

end Go.Proofs.YtjcaidbkbdkpeaaGreatDoor
