/- The sanity check of the law, cut in pieces; the states between them (printed by a program of our own, wip/tools/Print.lean). -/
import Derived.Test.YtledghdlcdgepaaGreatDoorK1
noncomputable section
namespace Go.Proofs.YtledghdlcdgepaaGreatDoor
set_option linter.unusedVariables false
open Go.RowKit

def i64 (n : Nat) : Value := .int .i64 (.ofNat n)
def pt (i o : Nat) : Value := .pointer (some ⟨i, o, none⟩)
def sl (i o n c : Nat) : Value := .slice (some ⟨i, o, none⟩) n c
def ag (l : List Value) : Value := .agg ⟨l⟩
def slots : List (Nat × Value) → Tr Value
  | [] => .leaf
  | (k, v) :: l => Tr.put 24 (slots l) k v
def blocks : List (Nat × ABlk) → Tr ABlk
  | [] => .leaf
  | (k, v) :: l => Tr.put 24 (blocks l) k v

def body7 : Code := match Tryz.f7.body with
  | some c => c
  | none => .skip
def d0 : Code := sL body7
def d1 : Code := sL (sR body7)
def d2 : Code := sL (sR (sR body7))
def d3 : Code := sL (sR (sR (sR body7)))
def d4 : Code := sL (sR (sR (sR (sR body7))))
def d5 : Code := sL (sR (sR (sR (sR (sR body7)))))
def d6 : Code := sL (sR (sR (sR (sR (sR (sR body7))))))
def d7 : Code := sL (sR (sR (sR (sR (sR (sR (sR body7)))))))
theorem body7_eq : Tryz.f7.body = some (.seq d0 (.seq d1 (.seq d2 (.seq d3 (.seq d4 (.seq d5 (.seq d6 (.seq d7 .ret)))))))) := by kernel_rfl
def ev7 (c : Code) (st tgt : St) : Bool := pieceB tbl call 92 1000 c st tgt

def A1 : St := ⟨slots [], ⟨blocks [
], 0⟩, []⟩
def A2 : St := ⟨slots [(1, pt 336 0), (3, i64 0)], ⟨blocks [
  (58, .cells [bs [110], i64 1, i64 0, bs [], .slice none 0 0] 152 [] true),
  (146, .cells [i64 4, i64 0, bs [110], .slice none 0 0, i64 1, i64 1, bs [], .slice none 0 0] 150 [128] true),
  (151, .cells [bs [110], i64 5, i64 0, bs [], sl 146 0 2 unk] 155 [] true),
  (163, .cells [bs [103, 111], .slice none 0 0, sl 151 0 1 unk, .slice none 0 0] 143 [] true),
  (204, .cells [i64 3, i64 0, bs [98], .slice none 0 0] 150 [] true),
  (234, .cells [bs [112, 114, 101, 115, 115], bs [103, 111], .slice none 0 0] 241 [] true),
  (297, .cells [i64 4, i64 0, bs [110], .slice none 0 0] 150 [] true),
  (302, .cells [bs [116, 101, 120, 116], i64 18, i64 0, bs [], sl 297 0 1 unk] 290 [] true),
  (315, .cells [i64 1, bs [108, 97, 98, 101, 108], bs [], .slice none 0 0, .slice none 0 0, sl 302 0 1 unk, .slice none 0 0, .slice none 0 0] 183 [] true),
  (324, .cells [i64 1, bs [98, 117, 116, 116, 111, 110], bs [], sl 204 0 1 1, .slice none 0 0, .slice none 0 0, sl 234 0 1 unk, sl 315 0 1 unk] 183 [] true),
  (332, .cells [bs [109, 97, 105, 110], .slice none 0 0, sl 58 0 1 unk, sl 163 0 1 unk, .slice none 0 0, sl 324 0 1 unk] 54 [] true),
  (336, .cells [sl 332 0 1 unk] 26 [] true)], 337⟩, []⟩
def A3 : St := ⟨slots [(1, pt 336 0), (3, i64 0), (4, pt 606 0), (5, pt 607 0), (7, i64 0)], ⟨blocks [
  (58, .cells [bs [110], i64 1, i64 0, bs [], .slice none 0 0] 152 [] true),
  (146, .cells [i64 4, i64 0, bs [110], .slice none 0 0, i64 1, i64 1, bs [], .slice none 0 0] 150 [128] true),
  (151, .cells [bs [110], i64 5, i64 0, bs [], sl 146 0 2 unk] 155 [] true),
  (163, .cells [bs [103, 111], .slice none 0 0, sl 151 0 1 unk, .slice none 0 0] 143 [] true),
  (204, .cells [i64 3, i64 0, bs [98], .slice none 0 0] 150 [] true),
  (234, .cells [bs [112, 114, 101, 115, 115], bs [103, 111], .slice none 0 0] 241 [] true),
  (297, .cells [i64 4, i64 0, bs [110], .slice none 0 0] 150 [] true),
  (302, .cells [bs [116, 101, 120, 116], i64 18, i64 0, bs [], sl 297 0 1 unk] 290 [] true),
  (315, .cells [i64 1, bs [108, 97, 98, 101, 108], bs [], .slice none 0 0, .slice none 0 0, sl 302 0 1 unk, .slice none 0 0, .slice none 0 0] 183 [] true),
  (324, .cells [i64 1, bs [98, 117, 116, 116, 111, 110], bs [], sl 204 0 1 1, .slice none 0 0, .slice none 0 0, sl 234 0 1 unk, sl 315 0 1 unk] 183 [] true),
  (332, .cells [bs [109, 97, 105, 110], .slice none 0 0, sl 58 0 1 unk, sl 163 0 1 unk, .slice none 0 0, sl 324 0 1 unk] 54 [] true),
  (336, .cells [sl 332 0 1 unk] 26 [] true),
  (485, .cells [i64 1, i64 0, bs [], .slice none 0 0] 56 [] true),
  (530, .cells [bs [112, 114, 101, 115, 115], bs [47], bs [103, 111], .slice none 0 0] 87 [] true),
  (594, .cells [bs [116, 101, 120, 116], i64 3, i64 0, bs [48], .slice none 0 0] 220 [] true),
  (598, .cells [i64 2, bs [], sl 594 0 1 unk, .slice none 0 0, .slice none 0 0] 34 [] true),
  (605, .cells [bs [47], bs [109, 97, 105, 110], .slice none 0 0, sl 485 0 1 unk, .slice none 0 0] 67 [] true),
  (606, .cells [i64 3, bs [98], .slice none 0 0, sl 530 0 1 unk, sl 598 0 1 unk] 34 [] true),
  (607, .cells [sl 605 0 1 unk] 37 [] true)], 608⟩, []⟩
def A4 : St := ⟨slots [(1, pt 336 0), (3, i64 0), (5, pt 607 0), (7, i64 0), (8, pt 650 0), (9, i64 0)], ⟨blocks [
  (58, .cells [bs [110], i64 1, i64 0, bs [], .slice none 0 0] 152 [] true),
  (146, .cells [i64 4, i64 0, bs [110], .slice none 0 0, i64 1, i64 1, bs [], .slice none 0 0] 150 [128] true),
  (151, .cells [bs [110], i64 5, i64 0, bs [], sl 146 0 2 unk] 155 [] true),
  (163, .cells [bs [103, 111], .slice none 0 0, sl 151 0 1 unk, .slice none 0 0] 143 [] true),
  (204, .cells [i64 3, i64 0, bs [98], .slice none 0 0] 150 [] true),
  (234, .cells [bs [112, 114, 101, 115, 115], bs [103, 111], .slice none 0 0] 241 [] true),
  (297, .cells [i64 4, i64 0, bs [110], .slice none 0 0] 150 [] true),
  (302, .cells [bs [116, 101, 120, 116], i64 18, i64 0, bs [], sl 297 0 1 unk] 290 [] true),
  (315, .cells [i64 1, bs [108, 97, 98, 101, 108], bs [], .slice none 0 0, .slice none 0 0, sl 302 0 1 unk, .slice none 0 0, .slice none 0 0] 183 [] true),
  (324, .cells [i64 1, bs [98, 117, 116, 116, 111, 110], bs [], sl 204 0 1 1, .slice none 0 0, .slice none 0 0, sl 234 0 1 unk, sl 315 0 1 unk] 183 [] true),
  (332, .cells [bs [109, 97, 105, 110], .slice none 0 0, sl 58 0 1 unk, sl 163 0 1 unk, .slice none 0 0, sl 324 0 1 unk] 54 [] true),
  (336, .cells [sl 332 0 1 unk] 26 [] true),
  (485, .cells [i64 1, i64 0, bs [], .slice none 0 0] 56 [] true),
  (605, .cells [bs [47], bs [109, 97, 105, 110], .slice none 0 0, sl 485 0 1 unk, .slice none 0 0] 67 [] true),
  (607, .cells [sl 605 0 1 unk] 37 [] true),
  (636, .cells [bs [112, 114, 101, 115, 115], bs [47], bs [103, 111], .slice none 0 0] 87 [] true),
  (645, .cells [bs [116, 101, 120, 116], i64 3, i64 0, bs [48], .slice none 0 0] 220 [] true),
  (647, .cells [i64 1, i64 0, i64 3, bs [98], .slice none 0 0, sl 636 0 1 unk, sl 649 0 1 unk, i64 2, i64 1, i64 2, bs [], sl 645 0 1 unk, .slice none 0 0, .slice none 0 0] 136 [] true),
  (649, .cells [i64 2] 3 [] true),
  (650, .cells [i64 1, i64 3, sl 647 0 2 unk] 81 [] true)], 651⟩, []⟩
def A5 : St := ⟨slots [(1, pt 336 0), (3, i64 0), (5, pt 607 0), (7, i64 0), (8, pt 650 0), (9, i64 0), (11, i64 0)], ⟨blocks [
  (58, .cells [bs [110], i64 1, i64 0, bs [], .slice none 0 0] 152 [] true),
  (146, .cells [i64 4, i64 0, bs [110], .slice none 0 0, i64 1, i64 1, bs [], .slice none 0 0] 150 [128] true),
  (151, .cells [bs [110], i64 5, i64 0, bs [], sl 146 0 2 unk] 155 [] true),
  (163, .cells [bs [103, 111], .slice none 0 0, sl 151 0 1 unk, .slice none 0 0] 143 [] true),
  (204, .cells [i64 3, i64 0, bs [98], .slice none 0 0] 150 [] true),
  (234, .cells [bs [112, 114, 101, 115, 115], bs [103, 111], .slice none 0 0] 241 [] true),
  (297, .cells [i64 4, i64 0, bs [110], .slice none 0 0] 150 [] true),
  (302, .cells [bs [116, 101, 120, 116], i64 18, i64 0, bs [], sl 297 0 1 unk] 290 [] true),
  (315, .cells [i64 1, bs [108, 97, 98, 101, 108], bs [], .slice none 0 0, .slice none 0 0, sl 302 0 1 unk, .slice none 0 0, .slice none 0 0] 183 [] true),
  (324, .cells [i64 1, bs [98, 117, 116, 116, 111, 110], bs [], sl 204 0 1 1, .slice none 0 0, .slice none 0 0, sl 234 0 1 unk, sl 315 0 1 unk] 183 [] true),
  (332, .cells [bs [109, 97, 105, 110], .slice none 0 0, sl 58 0 1 unk, sl 163 0 1 unk, .slice none 0 0, sl 324 0 1 unk] 54 [] true),
  (336, .cells [sl 332 0 1 unk] 26 [] true),
  (607, .cells [sl 811 0 1 unk] 37 [] true),
  (636, .cells [bs [112, 114, 101, 115, 115], bs [47], bs [103, 111], .slice none 0 0] 87 [] true),
  (645, .cells [bs [116, 101, 120, 116], i64 3, i64 0, bs [48], .slice none 0 0] 220 [] true),
  (647, .cells [i64 1, i64 0, i64 3, bs [98], .slice none 0 0, sl 636 0 1 unk, sl 649 0 1 unk, i64 2, i64 1, i64 2, bs [], sl 645 0 1 unk, .slice none 0 0, .slice none 0 0] 136 [] true),
  (649, .cells [i64 2] 3 [] true),
  (650, .cells [i64 1, i64 3, sl 647 0 2 unk] 81 [] true),
  (809, .cells [i64 1, i64 1, bs [], .slice none 0 0] 56 [] true),
  (811, .cells [bs [47], bs [109, 97, 105, 110], .slice none 0 0, sl 809 0 1 unk, .slice none 0 0] 67 [] true)], 812⟩, []⟩
def A6 : St := ⟨slots [(3, i64 0), (7, i64 0), (8, pt 650 0), (9, i64 0), (11, i64 0), (12, pt 1088 0), (15, i64 0)], ⟨blocks [
  (636, .cells [bs [112, 114, 101, 115, 115], bs [47], bs [103, 111], .slice none 0 0] 87 [] true),
  (645, .cells [bs [116, 101, 120, 116], i64 3, i64 0, bs [48], .slice none 0 0] 220 [] true),
  (647, .cells [i64 1, i64 0, i64 3, bs [98], .slice none 0 0, sl 636 0 1 unk, sl 649 0 1 unk, i64 2, i64 1, i64 2, bs [], sl 645 0 1 unk, .slice none 0 0, .slice none 0 0] 136 [] true),
  (649, .cells [i64 2] 3 [] true),
  (650, .cells [i64 1, i64 3, sl 647 0 2 unk] 81 [] true),
  (1012, .cells [bs [112, 114, 101, 115, 115], bs [47], bs [103, 111], .slice none 0 0] 87 [] true),
  (1076, .cells [bs [116, 101, 120, 116], i64 3, i64 0, bs [49], .slice none 0 0] 220 [] true),
  (1080, .cells [i64 2, bs [], sl 1076 0 1 unk, .slice none 0 0, .slice none 0 0] 34 [] true),
  (1088, .cells [i64 3, bs [98], .slice none 0 0, sl 1012 0 1 unk, sl 1080 0 1 unk] 34 [] true)], 1089⟩, []⟩
def A7 : St := ⟨slots [(3, i64 0), (7, i64 0), (9, i64 0), (11, i64 0), (15, i64 0), (16, sl 1259 0 1 unk), (17, i64 0)], ⟨blocks [
  (1257, .cells [bs [116, 101, 120, 116], i64 3, i64 0, bs [49], .slice none 0 0] 220 [] true),
  (1259, .cells [i64 4, i64 2, i64 0, i64 0, i64 0, bs [], sl 1257 0 1 unk, .slice none 0 0] 92 [] true)], 1260⟩, []⟩
def A8 : St := ⟨slots [(0, .bool true)], ⟨blocks [
], 0⟩, []⟩

end Go.Proofs.YtledghdlcdgepaaGreatDoor
