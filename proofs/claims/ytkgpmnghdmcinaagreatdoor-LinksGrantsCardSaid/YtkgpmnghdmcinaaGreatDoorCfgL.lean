/-
  A part of the proof that the law answers true for every input: CfgL. Conditions: those of each theorem.
-/
import Derived.Test.YtkgpmnghdmcinaaGreatDoorTabL
set_option linter.all false
set_option autoImplicit true
namespace MI.Tryz
open Go Go.Proofs MI

def strOf : V → List UInt8
  | .str s => s
  | _ => []

/-- The place of a byte. -/
def findB (c : Int) : Nat → List UInt8 → Int
  | _, [] => -1
  | n, b :: r => match (b.toNat : Int) == c with
    | true => n
    | false => findB c (n + 1) r

def joinB (sep : List UInt8) : List V → List UInt8
  | [] => []
  | [v] => strOf v
  | v :: r => strOf v ++ sep ++ joinB sep r

def allStr : List V → Bool
  | [] => true
  | .str _ :: r => allStr r
  | _ => false

def extIndexByte (args : List V) : Option V :=
  match args with
  | [.str s, .int .u8 c] => match decide (0 ≤ c ∧ c < 256) with
    | true => some (.int .i64 (findB c 0 s))
    | false => none
  | _ => none
def extJoin (args : List V) : Option V :=
  match args with
  | [.row xs, .str sep] => match allStr xs && (Nat.ble xs.length 140737488355328 && Nat.ble (joinB sep xs).length 140737488355328) with
    | true => some (.str (joinB sep xs))
    | false => none
  | _ => none

def extL (f : FuncId) (args : List V) : Option V :=
  match Nat.beq f 144 with
  | true => extIndexByte args
  | false => match Nat.beq f 32 with
    | true => extJoin args
    | false => none

/-- A Builder's own address is laid. -/
def extCheck (args : List V) (σ : Mem) : Option (V × Mem) :=
  match args with
  | [.ptr l g 0] => match getBlk σ l g with
    | some b => match b.frozen, b.grow, Nat.beq b.ty 90 with
      | false, false, true => match b.cells with
        | [.nilptr, x] => some (.tuple [], σ.set l { b with cells := [.ptr l g 0, x] })
        | [.ptr l' g' 0, _] => match Nat.beq l' l && Nat.beq g' g with
          | true => some (.tuple [], σ)
          | false => none
        | _ => none
      | _, _, _ => none
    | none => none
  | _ => none

def extML (f : FuncId) (args : List V) (σ : Mem) : Option (V × Mem) :=
  match Nat.beq f 78 with
  | true => extCheck args σ
  | false => none

def pureP (ps : Tr Unit) (f : FuncId) : Bool := match ps.get f with | some _ => true | none => false

noncomputable def tabs : Tabs where
  P := Tryz.prog
  fnT := fnT
  undT := undT
  sizT := sizT
  zeroT := zeroT
  eqT := eqT
  ordT := ordT
  globT := globT
  imm := fun t => Nat.beq t 65
  keep := fun f => Nat.beq f 70 || (Nat.beq f 183 || (Nat.beq f 212 || Nat.beq f 219))
  mild := pureP mildT
  mutB := fun f => Nat.beq f 155 || Nat.beq f 7
  memF := fun f => Nat.beq f 219
  ext := extL
  extM := extML

noncomputable def cfg : Cfg := tabs.cfg

theorem tabs_ok : tabs.OK := ⟨fn_ok, und_ok, siz_ok, zero_ok, eq_ok, stood_ok⟩
theorem good : Good cfg := tabs.good tabs_ok

def codeB (C : Cfg) (f : Nat) (fn : Func) : Bool :=
  !(fn.name == "runtime.NumGoroutine") && match fn.body with
  | some c => okCode C f c
  | none => true

theorem code_ok : fnT.allB (codeB cfg) = true := by kernel_rfl
end MI.Tryz

