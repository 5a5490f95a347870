/- What verify's functions compute, as plain Lean functions: for methods without handlers whose instructions ask for no fields and no methods. -/
import Derived.Test.YtpdjkclacbgneaaPure
namespace Go.Proofs.Ytpdjkclacbgneaa.Pl
open Go.Proofs.YtpdjkclacbgneaaW.PrintWords

/-- The types at an instruction. -/
structure St where
  reached : Bool
  locals : List Ty
  stack : List Ty
  deriving DecidableEq
instance : Inhabited St := ⟨⟨false, [], []⟩⟩
/-- An instruction's run: locals, stack, the first error. -/
structure Rn where
  locals : List Ty
  stack : List Ty
  e : Int
def kindT (k : Int) : Ty := ⟨k, nil⟩
def refT (c : Nm) : Ty := ⟨4, c⟩
def entry (cls : Nm) (m : Mt) : St := ⟨true, (refT cls :: m.params) ++ List.replicate (m.locals.toNat - (1 + m.params.length)) (kindT 6), []⟩
def bad (r : Rn) (e : Int) : Rn := if r.e = 0 then ⟨r.locals, r.stack, e⟩ else r
def popT (r : Rn) : Ty := if r.stack.length = 0 then kindT 6 else r.stack.getD (r.stack.length - 1) default
def popR (r : Rn) : Rn := if r.stack.length = 0 then bad r 81 else ⟨r.locals, r.stack.take (r.stack.length - 1), r.e⟩
def push (r : Rn) (t : Ty) : Rn := ⟨r.locals, r.stack ++ [t], r.e⟩
def takes (p : Pg) (r : Rn) (t : Ty) : Rn := if (popR r).e = 0 ∧ fits p.h (popT r) t = false then bad (popR r) 80 else popR r
def takesN (p : Pg) (t : Ty) : Nat → Rn → Rn
  | 0, r => r
  | n + 1, r => takesN p t n (takes p r t)
def objectR (r : Rn) (t : Ty) : Rn := if r.e = 0 ∧ t.kind ≠ 4 ∧ t.kind ≠ 5 then bad r 80 else r
def localAt (r : Rn) (i : In) : Ty := r.locals.getD i.a.toNat default
def setLocal (r : Rn) (i : In) (t : Ty) : Rn := ⟨r.locals.set i.a.toNat t, r.stack, r.e⟩
/-- An instruction of those that ask for no constants. -/
def does (p : Pg) (c : Cl) (ret : Int) (r : Rn) (i : In) : Rn :=
  if i.op = 1 then push r (kindT 1)
  else if i.op = 2 then push r (kindT 2)
  else if i.op = 3 then push r (kindT 5)
  else if i.op = 4 then push (if (localAt r i).kind = 6 then bad r 82 else r) (localAt r i)
  else if i.op = 5 then setLocal (popR r) i (popT r)
  else if i.op = 6 then popR r
  else if i.op = 8 ∨ i.op = 9 ∨ i.op = 10 ∨ i.op = 11 ∨ i.op = 12 ∨ i.op = 14 ∨ i.op = 15 then push (takesN p (kindT 1) 2 r) (kindT 1)
  else if i.op = 13 then push (takesN p (kindT 1) 1 r) (kindT 1)
  else if i.op = 23 ∨ i.op = 24 ∨ i.op = 44 ∨ i.op = 46 then takesN p (kindT 1) 1 r
  else if i.op = 16 ∨ i.op = 17 ∨ i.op = 18 then push (takesN p (kindT 2) 2 r) (kindT 2)
  else if i.op = 19 then push (takesN p (kindT 2) 1 r) (kindT 2)
  else if i.op = 20 then push (takesN p (kindT 2) 2 r) (kindT 1)
  else if i.op = 47 then takesN p (kindT 2) 1 r
  else if i.op = 38 ∨ i.op = 39 then objectR r (localAt r i)
  else if i.op = 33 then (if ret = 0 then r else bad r 80)
  else if i.op = 25 then push r (refT (c.pool.getD i.a.toNat default).cls)
  else r
/-- The instructions that 'does' is told of. -/
def plainOp (op : Int) : Bool := decide (op ∈ ([0, 1, 2, 3, 4, 5, 6, 8, 9, 10, 11, 12, 13, 14, 15, 16, 17, 18, 19, 20, 22, 23, 24, 25, 33, 38, 39, 44, 45, 46, 47] : List Int))
/-- What a state that comes to an instruction leaves: an error, the states, whether one has changed. -/
structure Fl where
  e : Int
  l : List St
  changed : Bool
def mergeL (p : Pg) : List Ty → List Ty → List Ty
  | w :: ws, s :: ss => merge p.h w s :: mergeL p ws ss
  | ws, [] => ws
  | [], _ => []
def joins (p : Pg) (most : Int) (l : List St) (ch : Bool) (pc : Nat) (s : St) : Fl :=
  let was := l.getD pc default
  if most < s.stack.length then ⟨81, l, ch⟩
  else if was.reached = false then ⟨0, l.set pc s, true⟩
  else if s.stack.length ≠ was.stack.length then ⟨81, l, ch⟩
  else
    let ls := mergeL p was.locals s.locals
    let ss := mergeL p was.stack s.stack
    if ss.any (fun t => decide (t.kind = 6)) then ⟨80, l, ch⟩
    else ⟨0, l.set pc ⟨was.reached, ls, ss⟩, ch || !decide (ls = was.locals) || !decide (ss = was.stack)⟩
def goes (p : Pg) (c : Cl) (m : Mt) (l : List St) (ch : Bool) (pc : Nat) : Fl :=
  let i := m.code.getD pc default
  let s := l.getD pc default
  let r := does p c m.ret.kind ⟨s.locals, s.stack, 0⟩ i
  if r.e ≠ 0 then ⟨r.e, l, ch⟩
  else if m.stack < r.stack.length then ⟨81, l, ch⟩
  else
    let a := if jumps i.op then joins p m.stack l ch i.a.toNat ⟨s.reached, r.locals, r.stack⟩ else ⟨0, l, ch⟩
    if a.e ≠ 0 then a
    else if stops i.op then a
    else joins p m.stack a.l a.changed (pc + 1) ⟨s.reached, r.locals, r.stack⟩
/-- One pass over the instructions from pc on. -/
def pass (p : Pg) (c : Cl) (m : Mt) : Nat → Nat → List St → Bool → Fl
  | 0, _, l, ch => ⟨0, l, ch⟩
  | n + 1, pc, l, ch =>
    if (l.getD pc default).reached = false then pass p c m n (pc + 1) l ch
    else
      let a := goes p c m l ch pc
      if a.e ≠ 0 then a else pass p c m n (pc + 1) a.l a.changed
/-- Passes until nothing changes; none: more than so many. -/
def passes (p : Pg) (c : Cl) (m : Mt) : Nat → List St → Option (Int × List St)
  | 0, _ => none
  | n + 1, l =>
    let a := pass p c m m.code.length 0 l false
    if a.e ≠ 0 then some (a.e, [])
    else if a.changed then passes p c m n a.l else some (0, a.l)
def vstart (p : Pg) (cls : Nm) (m : Mt) : List St := (joins p m.stack (List.replicate m.code.length default) false 0 (entry cls m)).l
def vmethod (p : Pg) (n : Nat) (cls name : Nm) : Option (Int × List St) :=
  match (clsOf p cls).methods.find? fun m => decide (m.name = name) with
  | none => some (72, [])
  | some m => passes p (clsOf p cls) m n (vstart p cls m)
def vallM (p : Pg) (n : Nat) (cls : Nm) : List Mt → Option Int
  | [] => some 0
  | m :: r => match vmethod p n cls m.name with
    | none => none
    | some a => if a.1 ≠ 0 then some a.1 else vallM p n cls r
def vallN (p : Pg) (n : Nat) : List Nm → Option Int
  | [] => some 0
  | c :: r => match vallM p n c (clsOf p c).methods with
    | none => none
    | some e => if e ≠ 0 then some e else vallN p n r
def vall (p : Pg) (n : Nat) : Option Int := vallN p n (p.h.map (·.1))
end Go.Proofs.Ytpdjkclacbgneaa.Pl
