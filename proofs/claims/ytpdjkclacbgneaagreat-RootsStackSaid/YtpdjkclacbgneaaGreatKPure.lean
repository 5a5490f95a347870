/- What the functions of locks compute, as plain Lean functions: for methods without handlers. -/
import Derived.Test.YtpdjkclacbgneaaGreatVPure
namespace Go.Proofs.YtpdjkclacbgneaaGreat.Pl
open Go.Proofs.YtpdjkclacbgneaaGreatW.PrintWords

/-- The locks at each instruction, which have been met, what is still to be gone through. -/
structure Wk where
  locks : List (List Int)
  met : List Bool
  todo : List Int
  deriving DecidableEq
def lcomes (s : Wk) (pc : Nat) (ls : List Int) : Int × Wk :=
  if s.met.getD pc false then (if s.locks.getD pc [] = ls then 0 else 90, s)
  else (0, ⟨s.locks.set pc ls, s.met.set pc true, s.todo ++ [(pc : Int)]⟩)
def behind (i : In) (ls : List Int) : List Int × Int :=
  if i.op = 38 then (if i.a ∈ ls ∨ 6 ≤ ls.length then ([], 90) else (ls ++ [i.a], 0))
  else if i.op = 39 then (if ls.length = 0 ∨ ls.getD (ls.length - 1) 0 ≠ i.a then ([], 90) else (ls.take (ls.length - 1), 0))
  else if i.op = 5 then (if i.a ∈ ls then ([], 90) else (ls, 0))
  else if i.op = 33 ∨ i.op = 34 then (if 0 < ls.length then ([], 90) else (ls, 0))
  else (ls, 0)
def lgoes (m : Mt) (s : Wk) (pc : Nat) : Int × Wk :=
  let i := m.code.getD pc default
  let b := behind i (s.locks.getD pc [])
  if b.2 ≠ 0 then (b.2, s)
  else
    let a := if jumps i.op then lcomes s i.a.toNat b.1 else (0, s)
    if a.1 ≠ 0 then a else if stops i.op then a else lcomes a.2 (pc + 1) b.1
/-- Instructions until none is left; none: more than so many. -/
def lruns (m : Mt) : Nat → Wk → Option (Int × List (List Int))
  | 0, _ => none
  | n + 1, s =>
    if s.todo.length = 0 then some (0, s.locks)
    else
      let a := lgoes m ⟨s.locks, s.met, s.todo.take (s.todo.length - 1)⟩ (s.todo.getD (s.todo.length - 1) 0).toNat
      if a.1 ≠ 0 then some (a.1, []) else lruns m n a.2
def lstart (n : Nat) : Wk := (lcomes ⟨List.replicate n [], List.replicate n false, []⟩ 0 []).2
def lmethod (p : Pg) (n : Nat) (cls name : Nm) : Option (Int × List (List Int)) :=
  match vmethod p n cls name with
  | none => none
  | some a =>
    if a.1 ≠ 0 then some (a.1, [])
    else match (clsOf p cls).methods.find? fun m => decide (m.name = name) with
      | none => none
      | some m => lruns m n (lstart m.code.length)
def lallM (p : Pg) (n : Nat) (cls : Nm) : List Mt → Option Int
  | [] => some 0
  | m :: r => match lmethod p n cls m.name with
    | none => none
    | some a => if a.1 ≠ 0 then some a.1 else lallM p n cls r
def lallN (p : Pg) (n : Nat) : List Nm → Option Int
  | [] => some 0
  | c :: r => match lallM p n c (clsOf p c).methods with
    | none => none
    | some e => if e ≠ 0 then some e else lallN p n r
def lall (p : Pg) (n : Nat) : Option Int := lallN p n (p.h.map (·.1))
end Go.Proofs.YtpdjkclacbgneaaGreat.Pl
