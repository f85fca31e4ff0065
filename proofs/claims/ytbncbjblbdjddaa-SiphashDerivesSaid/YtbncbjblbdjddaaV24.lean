/-
  A configuration written out: what is dead is left behind, and what was reckoned is laid down.
-/
import Derived.Test.YtbncbjblbdjddaaV23
namespace Go.Proofs.Ytbncbjblbdjddaa
open Go.RowKit

def codeAt : List Nat → Code → Code
  | [], c => c
  | 0 :: p, .seq a _ => codeAt p a
  | _ :: p, .seq _ b => codeAt p b
  | 0 :: p, .cond _ a _ => codeAt p a
  | _ :: p, .cond _ _ b => codeAt p b
  | _ :: p, .block _ a => codeAt p a
  | _ :: p, .loop a => codeAt p a
  | _ :: p, .scope a => codeAt p a
  | _, c => c
def bodyOf (f : Func) : Code := match f.body with
  | some c => c
  | none => .skip
def opsOf : Code → Array Oper
  | .region _ ops _ => ops
  | _ => #[]
def opsFr (c : Code) (i : Nat) : Fr := .ops (opsOf c) ((opsOf c).toList.drop i)
section
variable {P : Program} {K : Ctx} {n : Nat} {Q : Exit → St → Prop} {C : Cfg}
theorem TS_cut (f : Fit) (C' : Cfg) (he : C.pre = true) (h : C.fit f = C') (k : TS P K n C' Q) : TS P K n C Q := TS_fitU f he (h ▸ k)
end
end Go.Proofs.Ytbncbjblbdjddaa
