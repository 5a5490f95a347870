/- Floats: an operation's result whatever its operands (a NaN's bits are drawn), as one rule for the walk; and what two results have in common. -/
import Derived.Laws.FloatArith
import Derived.Deep.Draws
import Derived.WalkKit
namespace Go.Proofs.YtlfkachphpneiaaDoor

/-- The bits that an operation gives in a world. -/
def fv (op : BinOp) (w : World) (a b : Nat) : Nat := match floatBits op .f64 a b with | some r => r | none => Question.cut (.nanBits .f64 a b) (w.tape w.drawn (.nanBits .f64 a b))
/-- How many answers it draws. -/
def fc (op : BinOp) (a b : Nat) : Nat := match floatBits op .f64 a b with | some _ => 0 | none => 1
theorem run_fop {P : Program} {op : BinOp} (ho : op = .add ∨ op = .sub ∨ op = .mul) (t : TypeId) (a b : Nat) (w : World) :
    (binOp op t (.float .f64 a) (.float .f64 b)).run P w = .ok (.float .f64 (fv op w a b)) (w.drewN (fc op a b)) := by
  unfold fv fc
  cases h : floatBits op .f64 a b with
  | some r => exact run_float_arith w op t .f64 a b r h
  | none =>
    rcases ho with rfl | rfl | rfl
    all_goals
      simp only [floatBits] at h
      simp [binOp, Op.floatArith, h, choose, Sem.run, Question.forced, World.drewN]
theorem run_fadd {P : Program} (t : TypeId) (a b : Nat) (w : World) : (binOp .add t (.float .f64 a) (.float .f64 b)).run P w = .ok (.float .f64 (fv .add w a b)) (w.drewN (fc .add a b)) := run_fop (.inl rfl) t a b w
theorem run_fsub {P : Program} (t : TypeId) (a b : Nat) (w : World) : (binOp .sub t (.float .f64 a) (.float .f64 b)).run P w = .ok (.float .f64 (fv .sub w a b)) (w.drewN (fc .sub a b)) := run_fop (.inr (.inl rfl)) t a b w
theorem run_fmul {P : Program} (t : TypeId) (a b : Nat) (w : World) : (binOp .mul t (.float .f64 a) (.float .f64 b)).run P w = .ok (.float .f64 (fv .mul w a b)) (w.drewN (fc .mul a b)) := run_fop (.inr (.inr rfl)) t a b w

/-- Is a word a NaN? -/
def nan (b : Nat) : Bool := (Ieee.double.read b).isNaN
/-- What an operation may give: the result's bits, or some NaN. -/
def Gives (r : Option Nat) (p : Nat) : Prop := p < 18446744073709551616 ∧ (r = some p ∨ r = none ∧ nan p = true)
theorem fv_gives (op : BinOp) (w : World) (a b : Nat) : Gives (floatBits op .f64 a b) (fv op w a b) := by
  unfold fv
  cases h : floatBits op .f64 a b with
  | some r =>
    refine ⟨?_, .inl rfl⟩
    have := floatBits_wf h
    simpa [Lit.wf] using this
  | none =>
    simp only [Question.cut]
    generalize w.tape w.drawn (.nanBits .f64 a b) = t
    refine ⟨by omega, .inr ⟨rfl, ?_⟩⟩
    have e : ∃ (s f : Nat), s ≤ 1 ∧ f < 4503599627370495 ∧ (t % 2) * 2 ^ 63 + 0x7ff0000000000000 + 1 + (t / 2) % (2 ^ 52 - 1) = s * 9223372036854775808 + 9218868437227405312 + 1 + f := ⟨t % 2, t / 2 % 4503599627370495, by omega, by omega, by omega⟩
    obtain ⟨s, f, hs, hf, e⟩ := e
    rw [e]
    have h1 : Ieee.double.signWeight = 9223372036854775808 := by decide
    have h2 : Ieee.double.binade = 4503599627370496 := by decide
    have h3 : Ieee.double.infRung = 9218868437227405312 := by decide
    have h4 : (s * 9223372036854775808 + 9218868437227405312 + 1 + f) % 9223372036854775808 = 9218868437227405312 + 1 + f := by omega
    simp only [nan, Ieee.Format.read, h1, h2, h3, h4]
    rw [if_neg (by omega), if_neg (by omega), if_neg (by omega)]
    rfl
/-- Two results of one operation: the same bits, or NaNs both. -/
theorem Gives.both {r : Option Nat} {p q : Nat} (hp : Gives r p) (hq : Gives r q) : p = q ∨ nan p = true ∧ nan q = true := by
  rcases hp.2 with h | ⟨h, h1⟩ <;> rcases hq.2 with h' | ⟨h', h2⟩
  · rw [h] at h'; exact .inl (Option.some.inj h')
  · rw [h] at h'; cases h'
  · rw [h] at h'; cases h'
  · exact .inr ⟨h1, h2⟩
/-- The bits of a word that is no NaN, or any NaN's: what the statements' 'alike' asks. -/
def AlikeB (p q : Nat) : Prop := p = q ∨ nan p = true ∧ nan q = true
theorem read_nan {b : Nat} (h : nan b = true) : ∃ s t, Ieee.double.read b = .nan s t := by
  unfold nan at h
  cases e : Ieee.double.read b with
  | nan s t => exact ⟨s, t, rfl⟩
  | number s m p => rw [e] at h; cases h
  | infinity s => rw [e] at h; cases h
theorem nan_left {op : BinOp} (ho : op = .add ∨ op = .sub ∨ op = .mul) {a b : Nat} (h : nan a = true) : floatBits op .f64 a b = none := by
  obtain ⟨s, t, e⟩ := read_nan h
  have e' : FloatKind.f64.format.read a = .nan s t := e
  rcases ho with rfl | rfl | rfl <;> simp [floatBits, Ieee.Format.add, Ieee.Format.sub, Ieee.Format.mul, e', Ieee.Datum.sum, Ieee.Datum.product]
theorem nan_right {op : BinOp} (ho : op = .add ∨ op = .sub ∨ op = .mul) {a b : Nat} (h : nan b = true) : floatBits op .f64 a b = none := by
  obtain ⟨s, t, e⟩ := read_nan h
  have e' : FloatKind.f64.format.read b = .nan s t := e
  rcases ho with rfl | rfl | rfl <;> simp only [floatBits, Ieee.Format.add, Ieee.Format.sub, Ieee.Format.mul, e', Ieee.Datum.opposite] <;> cases FloatKind.f64.format.read a <;> rfl
/-- Of operands that are alike the results are alike. -/
theorem Gives.alike {op : BinOp} (ho : op = .add ∨ op = .sub ∨ op = .mul) {a b c d p q : Nat} (h1 : AlikeB a c) (h2 : AlikeB b d) (hp : Gives (floatBits op .f64 a b) p) (hq : Gives (floatBits op .f64 c d) q) : AlikeB p q := by
  rcases h1 with rfl | ⟨n1, n2⟩
  · rcases h2 with rfl | ⟨n3, n4⟩
    · exact hp.both hq
    · rw [nan_right ho n3] at hp; rw [nan_right ho n4] at hq; exact hp.both hq
  · rw [nan_left ho n1] at hp; rw [nan_left ho n2] at hq; exact hp.both hq
theorem order_self (b : Nat) : (FloatKind.f64.format.order b b == some .eq) = !nan b := by
  unfold nan Ieee.Format.order
  show ((Ieee.double.read b).order (Ieee.double.read b) == some .eq) = _
  cases Ieee.double.read b with
  | nan s t => rfl
  | number s m p => simp [Ieee.Datum.order, Ieee.Datum.isNaN]
  | infinity s => simp [Ieee.Datum.order, Ieee.Datum.isNaN]
end Go.Proofs.YtlfkachphpneiaaDoor
