/- The abstract interpreter: words for the printed texts. -/
import Derived.Test.YtddnmijnpieokaaAbsM
set_option linter.unusedVariables false
namespace Go.Ab

/-- A new block: its address, the heap with it. -/
def newK {R : Type} (h : AH) (b : ABlk) (k : Ref → AH → R) : R := k h.next (h.alloc b)

def keepOf : List (Nat × Nat × List Nat) → Keep
  | [], _, _ => none
  | (f, r, l) :: t, g, q => cond (Nat.beq f g && Nat.beq r q) (some l) (keepOf t g q)

/-- Where region r begins: what is to do from there on. -/
def todoIn (r : Nat) : Code → List Item → Option (List Item)
  | .region id ops draw, k => cond (Nat.beq id r) (some (.code (.region id ops draw) :: k)) none
  | .seq a b, k => match todoIn r a (.code b :: k) with
    | some t => some t
    | none => todoIn r b k
  | .cond _ a b, k => match todoIn r a k with
    | some t => some t
    | none => todoIn r b k
  | .block id b, k => todoIn r b (.inBlock id :: k)
  | .loop b, k => todoIn r b (.inLoop b :: k)
  | .scope b, k => todoIn r b (.inScope b :: k)
  | _, _ => none

def todoAt (fn : Func) (r : Nat) : List Item :=
  match fn.body with
  | some c => (todoIn r c []).getD []
  | none => []

end Go.Ab
