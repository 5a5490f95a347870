/- Class files, ancestors, linked programs as plain data, and what the program's functions compute on them, as plain Lean functions. -/
import Derived.Test.YtpdjkclacbgneaaWWords
namespace Go.Proofs.Ytpdjkclacbgneaa.Pl
open Go.Proofs.YtpdjkclacbgneaaW.PrintWords

abbrev Nm := ByteArray
structure Ty where
  kind : Int
  cls : Nm
  deriving DecidableEq
structure Cn where
  kind : Int
  int : Int
  re : Nat
  im : Nat
  cls : Nm
  name : Nm
  deriving DecidableEq
structure In where
  op : Int
  a : Int
  deriving DecidableEq
structure Fd where
  name : Nm
  ty : Ty
  vol : Bool
  deriving DecidableEq
structure Hn where
  lo : Int
  hi : Int
  target : Int
  cls : Int
  depth : Int
  deriving DecidableEq
structure Mt where
  name : Nm
  params : List Ty
  ret : Ty
  locals : Int
  stack : Int
  code : List In
  handlers : List Hn
  deriving DecidableEq
structure Cl where
  name : Nm
  super : Nm
  pool : List Cn
  fields : List Fd
  methods : List Mt
  deriving DecidableEq
structure Sl where
  cls : Nm
  fd : Fd
  at_ : Int
  deriving DecidableEq
instance : Inhabited Ty := ⟨⟨0, ByteArray.empty⟩⟩
instance : Inhabited Cn := ⟨⟨0, 0, 0, 0, ByteArray.empty, ByteArray.empty⟩⟩
instance : Inhabited In := ⟨⟨0, 0⟩⟩
instance : Inhabited Fd := ⟨⟨ByteArray.empty, default, false⟩⟩
instance : Inhabited Hn := ⟨⟨0, 0, 0, 0, 0⟩⟩
instance : Inhabited Mt := ⟨⟨ByteArray.empty, [], default, 0, 0, [], []⟩⟩
instance : Inhabited Cl := ⟨⟨ByteArray.empty, ByteArray.empty, [], [], []⟩⟩
instance : Inhabited Sl := ⟨⟨ByteArray.empty, default, 0⟩⟩

/-! ### the memory's words for them -/
def cplx64 : Kd (Nat × Nat) := Kd.scalar (fun x => Value.complex .f64 x.1 x.2) (fun _ => rfl)
def tyK : Kd Ty := Kd.iso (Kd.pair (Kd.int .i64) Kd.string) fun t => (t.kind, t.cls)
def cnK : Kd Cn := Kd.iso (Kd.pair (Kd.int .i64) (Kd.pair (Kd.int .i64) (Kd.pair cplx64 (Kd.pair Kd.string Kd.string)))) fun c => (c.kind, c.int, (c.re, c.im), c.cls, c.name)
def inK : Kd In := Kd.iso (Kd.pair (Kd.int .i64) (Kd.int .i64)) fun i => (i.op, i.a)
def fdK : Kd Fd := Kd.iso (Kd.pair Kd.string (Kd.pair tyK Kd.bool)) fun f => (f.name, f.ty, f.vol)
def hnK : Kd Hn := Kd.iso (Kd.pair (Kd.int .i64) (Kd.pair (Kd.int .i64) (Kd.pair (Kd.int .i64) (Kd.pair (Kd.int .i64) (Kd.int .i64))))) fun h => (h.lo, h.hi, h.target, h.cls, h.depth)

/-! ### names, types -/
def letterB (c : Int) : Bool := (decide (97 ≤ c) && decide (c ≤ 122)) || (decide (65 ≤ c) && decide (c ≤ 90)) || c == 95 || c == 36
def partB (c : Int) : Bool := letterB c || (decide (48 ≤ c) && decide (c ≤ 57))
def isName (s : Nm) : Bool :=
  match bytesOf s with
  | [] => false
  | c :: r => decide (r.length < 20) && letterB c && (c :: r).all partB
def isType (t : Ty) (void : Bool) : Bool :=
  if t.kind = 1 ∨ t.kind = 2 ∨ t.kind = 3 then decide (t.cls.size = 0)
  else if t.kind = 4 then isName t.cls
  else if t.kind = 0 then void && decide (t.cls.size = 0)
  else false

/-! ### class files -/
def ErrOp : Int := 40
/-- code.Operand -/
def operand (op : Int) : Int :=
  if op = 4 ∨ op = 5 ∨ op = 38 ∨ op = 39 then 1
  else if op = 1 ∨ op = 2 ∨ op = 25 ∨ op = 26 ∨ op = 27 ∨ op = 32 ∨ op = 36 ∨ op = 37 ∨ op = 43 then 2
  else if op = 22 ∨ op = 23 ∨ op = 24 then 3
  else if op < 0 ∨ 48 ≤ op then -1
  else 0
/-- code.Is -/
def codeIs (i : In) : Bool :=
  if operand i.op = -1 then false
  else if operand i.op = 0 then decide (i.a = 0)
  else decide (0 ≤ i.a) && decide (i.a ≤ 999)
/-- code.Stops, code.Jumps -/
def stops (op : Int) : Bool := decide (op = 22) || decide (op = 33) || decide (op = 34) || decide (op = 35)
def jumps (op : Int) : Bool := decide (operand op = 3)
def constant (c : Cn) : Int :=
  let member := decide (c.kind = 4) || decide (c.kind = 5)
  let named := member || decide (c.kind = 3)
  if c.kind < 1 ∨ 5 < c.kind then 51
  else if c.kind ≠ 1 ∧ c.int ≠ 0 then 51
  else if c.kind ≠ 2 ∧ (c.re ≠ 0 ∨ c.im ≠ 0) then 51
  else if named = false ∧ c.cls.size ≠ 0 then 51
  else if member = false ∧ c.name.size ≠ 0 then 51
  else if named = true ∧ isName c.cls = false then 50
  else if member = true ∧ isName c.name = false then 50
  else 0
/-- the first error of a list -/
def firstOf {α : Type} (f : α → Int) : List α → Int
  | [] => 0
  | x :: r => if f x = 0 then firstOf f r else f x
/-- the first error of a list, each element seen with those ahead of it -/
def firstOn {α : Type} (f : List α → α → Int) (ahead : List α) : List α → Int
  | [] => 0
  | x :: r => if f ahead x = 0 then firstOn f (ahead ++ [x]) r else f ahead x
def field1 (ahead : List Fd) (f : Fd) : Int :=
  if isName f.name = false then 50
  else if isType f.ty false = false then 50
  else if ahead.any (fun o => decide (o.name = f.name)) then 53
  else 0
def fields (l : List Fd) : Int := if 8 < l.length then 32 else firstOn field1 [] l
def asks (op : Int) : Int :=
  if op = 1 then 1 else if op = 2 then 2 else if op = 26 ∨ op = 27 then 4 else if op = 32 ∨ op = 43 then 5 else 3
def kindAt (l : List Cn) (i : Int) : Int := (l.getD i.toNat default).kind
def ins (c : Cl) (m : Mt) (i : In) : Int :=
  if codeIs i = false then 40
  else if operand i.op = 1 then (if m.locals ≤ i.a then 52 else 0)
  else if operand i.op = 2 then (if (c.pool.length : Int) ≤ i.a then 51 else if kindAt c.pool i.a ≠ asks i.op then 51 else 0)
  else if operand i.op = 3 then (if (m.code.length : Int) ≤ i.a then 52 else 0)
  else 0
def handler (c : Cl) (m : Mt) (h : Hn) : Int :=
  if h.lo < 0 ∨ h.hi ≤ h.lo ∨ (m.code.length : Int) < h.hi ∨ h.target < 0 ∨ (m.code.length : Int) ≤ h.target then 52
  else if h.cls < -1 ∨ (c.pool.length : Int) ≤ h.cls ∨ (0 ≤ h.cls ∧ kindAt c.pool h.cls ≠ 3) then 51
  else if h.depth < 0 ∨ 6 < h.depth then 32
  else 0
def body (c : Cl) (m : Mt) : Int :=
  if m.code.length < 1 ∨ 200 < m.code.length then 32
  else if firstOf (ins c m) m.code ≠ 0 then firstOf (ins c m) m.code
  else if stops (m.code.getD (m.code.length - 1) default).op = false then 54
  else if 16 < m.handlers.length then 32
  else firstOf (handler c m) m.handlers
def method (c : Cl) (ahead : List Mt) (m : Mt) : Int :=
  if isName m.name = false then 50
  else if 6 < m.params.length then 32
  else if m.params.any (fun t => !isType t false) = true ∨ isType m.ret true = false then 50
  else if ahead.any (fun o => decide (o.name = m.name)) then 53
  else if m.locals < 1 + m.params.length ∨ 32 < m.locals then 32
  else if m.stack < 0 ∨ 64 < m.stack then 32
  else body c m
def check (c : Cl) : Int :=
  if isName c.name = false then 50
  else if c.super.size ≠ 0 ∧ isName c.super = false then 50
  else if 128 < c.pool.length then 32
  else if firstOf constant c.pool ≠ 0 then firstOf constant c.pool
  else if fields c.fields ≠ 0 then fields c.fields
  else if 12 < c.methods.length then 32
  else firstOn (method c) [] c.methods

/-! ### ancestors -/
def nObject : Nm := ⟨#[79, 98, 106, 101, 99, 116]⟩
def nFault : Nm := ⟨#[70, 97, 117, 108, 116]⟩
def nCode : Nm := ⟨#[99, 111, 100, 101]⟩
def nMain : Nm := ⟨#[77, 97, 105, 110]⟩
def nmain : Nm := ⟨#[109, 97, 105, 110]⟩
def nil : Nm := ⟨#[]⟩
/-- classes, each with the one above it, in the order in which they came in -/
abbrev Hier := List (Nm × Nm)
def look {α : Type} (z : α) (l : List (Nm × α)) (n : Nm) : α :=
  match l with
  | [] => z
  | (k, v) :: r => if k = n then v else look z r n
def has {α : Type} (l : List (Nm × α)) (n : Nm) : Bool :=
  match l with
  | [] => false
  | (k, _) :: r => if k = n then true else has r n
def sup (h : Hier) (n : Nm) : Nm := look nil h n
/-- round: is n above itself? k more steps may be gone -/
def round (h : Hier) : Nat → Nm → Bool
  | 0, n => if n = nObject then false else true
  | k + 1, n => if n = nObject then false else round h k (sup h n)
def hier0 : Hier := [(nObject, nil), (nFault, nObject)]
def grow (h : Hier) : List (Nm × Nm) → Int × Hier
  | [] => (0, h)
  | (n, s) :: r => if isName n = false then (50, h) else if has h n = true then (53, h) else grow (h ++ [(n, if s.size = 0 then nObject else s)]) r
def hier (l : List (Nm × Nm)) : Int × Hier :=
  if 16 < l.length then (32, [])
  else
    let g := grow hier0 l
    if g.1 ≠ 0 then (g.1, [])
    else if l.any (fun p => !has g.2 (sup g.2 p.1)) = true then (70, [])
    else if l.any (fun p => round g.2 (g.2.length + 1) p.1) = true then (71, [])
    else (0, g.2)
/-- a class and all above it, k steps at most -/
def anc (h : Hier) : Nat → Nm → List Nm
  | 0, n => [n]
  | k + 1, n => n :: (if n = nObject then [] else anc h k (sup h n))
def ancestors (h : Hier) (n : Nm) : List Nm := if has h n = false then [] else anc h (h.length + 1) n
def subB (h : Hier) (a b : Nm) : Bool := (ancestors h a).any (fun n => decide (n = b))
def common (h : Hier) (a b : Nm) : Nm := ((ancestors h a).find? fun n => subB h b n).getD nil
def fits (h : Hier) (a b : Ty) : Bool :=
  if b.kind = 6 then true
  else if a.kind = 5 then decide (b.kind = 5) || decide (b.kind = 3) || decide (b.kind = 4)
  else if a.kind = 4 ∧ b.kind = 4 then subB h a.cls b.cls
  else decide (a.kind = b.kind) && decide (1 ≤ a.kind) && decide (a.kind ≤ 3)
def refers (t : Ty) : Bool := decide (t.kind = 3) || decide (t.kind = 4)
def top : Ty := ⟨6, nil⟩
def merge (h : Hier) (a b : Ty) : Ty :=
  if a = b then a
  else if a.kind = 5 ∧ refers b = true then b
  else if b.kind = 5 ∧ refers a = true then a
  else if a.kind ≠ 4 ∨ b.kind ≠ 4 then top
  else if common h a.cls b.cls ≠ nil then ⟨4, common h a.cls b.cls⟩
  else top
def words (t : Ty) : Int := if t.kind = 2 then 2 else if t.kind = 1 ∨ t.kind = 3 ∨ t.kind = 4 ∨ t.kind = 5 then 1 else 0

/-! ### linked classes -/
structure Pg where
  h : Hier
  cs : List (Nm × Cl)
def clsOf (p : Pg) (n : Nm) : Cl := look default p.cs n
def cObject : Cl := ⟨nObject, nil, [], [], []⟩
def cFault : Cl := ⟨nFault, nil, [], [⟨nCode, ⟨1, nil⟩, false⟩], []⟩
def there (p : Pg) (t : Ty) : Bool := decide (t.kind ≠ 4) || has p.h t.cls
/-- the method of a name that is nearest -/
def methIn (p : Pg) (name : Nm) : List Nm → Nm × Mt × Bool
  | [] => (nil, default, false)
  | n :: r => match (clsOf p n).methods.find? (fun m => decide (m.name = name)) with
    | some m => (n, m, true)
    | none => methIn p name r
def meth (p : Pg) (cls name : Nm) : Nm × Mt × Bool := methIn p name (ancestors p.h cls)
def hasField (p : Pg) (cls name : Nm) : Bool := (clsOf p cls).fields.any fun f => decide (f.name = name)
def sameM (a b : Mt) : Bool := decide (a.params = b.params) && decide (a.ret = b.ret)
def members (p : Pg) (c : Cl) : Int :=
  if (c.fields.all (fun f => there p f.ty) && c.methods.all (fun m => there p m.ret && m.params.all (there p))) = false then 70
  else
    let above := (ancestors p.h c.name).tail
    if c.fields.any (fun f => above.any fun n => hasField p n f.name) = true then 53
    else if c.methods.any (fun m => let o := meth p (above.headD nil) m.name; o.2.2 && !sameM m o.2.1) = true then 73
    else 0
def slotsIn (p : Pg) (l : List Sl) (at_ : Int) (n : Nm) : List Fd → List Sl × Int
  | [] => (l, at_)
  | f :: r => slotsIn p (l ++ [⟨n, f, at_⟩]) (at_ + words f.ty) n r
def slotsOn (p : Pg) (l : List Sl) (at_ : Int) : List Nm → List Sl × Int
  | [] => (l, at_)
  | n :: r => slotsOn p (slotsIn p l at_ n (clsOf p n).fields).1 (slotsIn p l at_ n (clsOf p n).fields).2 r
def slots (p : Pg) (name : Nm) : List Sl × Int := slotsOn p [] 0 (ancestors p.h name).reverse
def fieldOf (p : Pg) (cls name : Nm) : Sl × Bool :=
  match (slots p cls).1.find? (fun s => decide (s.fd.name = name)) with
  | some s => (s, true)
  | none => (default, false)
def pool1 (p : Pg) (x : Cn) : Int :=
  if x.kind < 3 then 0
  else if has p.h x.cls = false then 70
  else if (x.kind = 4 ∧ (fieldOf p x.cls x.name).2 = false) ∨ (x.kind = 5 ∧ (meth p x.cls x.name).2.2 = false) then 72
  else 0
def put {α : Type} (l : List (Nm × α)) (n : Nm) (v : α) : List (Nm × α) :=
  match l with
  | [] => [(n, v)]
  | (k, u) :: r => if k = n then (k, v) :: r else (k, u) :: put r n v
def progOf (h : Hier) (l : List Cl) : Pg := ⟨h, l.foldl (fun cs c => put cs c.name c) [(nObject, cObject), (nFault, cFault)]⟩
def link (l : List Cl) : Int × Pg :=
  let none_ : Pg := ⟨[], []⟩
  if firstOf check l ≠ 0 then (firstOf check l, none_)
  else
    let h := hier (l.map fun c => (c.name, c.super))
    if h.1 ≠ 0 then (h.1, none_)
    else
      let p := progOf h.2 l
      if firstOf (members p) l ≠ 0 then (firstOf (members p) l, none_)
      else if firstOf (fun c => firstOf (pool1 p) c.pool) l ≠ 0 then (firstOf (fun c => firstOf (pool1 p) c.pool) l, none_)
      else
        let m := meth p nMain nmain
        if m.2.2 = false ∨ 0 < m.2.1.params.length ∨ m.2.1.ret.kind ≠ 0 then (74, none_)
        else (0, p)
end Go.Proofs.Ytpdjkclacbgneaa.Pl
