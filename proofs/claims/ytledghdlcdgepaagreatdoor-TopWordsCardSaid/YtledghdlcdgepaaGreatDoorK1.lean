/- The law's body, cut in pieces; the states between them. -/
import Derived.Test.YtledghdlcdgepaaGreatDoorK0
noncomputable section
namespace Go.Proofs.YtledghdlcdgepaaGreatDoor
set_option linter.unusedVariables false
open Go.RowKit

def sL (c : Code) : Code := match c with
  | .seq a _ => a
  | c => c
def sR (c : Code) : Code := match c with
  | .seq _ b => b
  | c => c
def inB (c : Code) : Code := match c with
  | .block _ b => b
  | c => c
def inL (c : Code) : Code := match c with
  | .loop b => b
  | c => c
def body3 : Code := match Tryz.f3.body with
  | some c => c
  | none => .skip
def c0 : Code := sL body3
def c1 : Code := sL (sR body3)
def cL : Code := sL (sR (sR body3))
def c2 : Code := sL cL
def cB : Code := inL (inB (sR cL))
def cE : Code := sR (sR (sR body3))
theorem body3_eq : Tryz.f3.body = some (.seq c0 (.seq c1 (.seq (.seq c2 (.block 0 (.loop cB))) (.seq (sL cE) .ret)))) := by kernel_rfl

def bs (l : List Nat) : Value := .string ⟨(l.map UInt8.ofNat).toArray⟩
/-- The words of the kinds. -/
def words : List Value := [bs [103, 114, 111, 117, 112], bs [108, 97, 98, 101, 108], bs [98, 117, 116, 116, 111, 110], bs [102, 105, 101, 108, 100], bs [105, 109, 97, 103, 101], bs [99, 104, 101, 99, 107], bs [108, 105, 110, 107], bs [115, 99, 114, 111, 108, 108], bs [104, 101, 97, 100, 105, 110, 103], bs [108, 105, 115, 116], bs [105, 116, 101, 109], bs [100, 105, 97, 108, 111, 103], bs [115, 108, 105, 100, 101, 114]]
def T0 : St := ⟨.leaf, ⟨.leaf, 0⟩, []⟩
def T1 : St := ⟨Tr.put 24 .leaf 1 (.slice (some ⟨0, 0, none⟩) 13 13), ⟨Tr.put 24 .leaf 0 (.cells words 9 [] true), 1⟩, []⟩
def S (k : Nat) : St := ⟨Tr.put 24 (Tr.put 24 .leaf 1 (.slice (some ⟨0, 0, none⟩) 13 13)) 2 (.int .i64 (Int.ofNat k)), ⟨Tr.put 24 .leaf 0 (.cells words 9 [] true), 1⟩, []⟩
def T9 : St := ⟨Tr.put 24 .leaf 0 (.bool true), ⟨.leaf, 0⟩, []⟩
def ev (c : Code) (st tgt : St) : Bool := pieceB tbl call 55 1000 c st tgt
theorem p0 : ev c0 T0 T0 = true := by kernel_rfl
theorem p1 : ev c1 T0 T1 = true := by kernel_rfl
theorem p2 : ev c2 T1 (S 0) = true := by kernel_rfl
theorem pX : pieceX tbl call 55 1000 0 cB (S 13) (S 13) = true := by kernel_rfl
theorem p9 : pieceB tbl (knowTrue 7 call) 55 1000 (sL cE) (S 13) T9 = true := by kernel_rfl
end Go.Proofs.YtledghdlcdgepaaGreatDoor
