/- The walks of the package num: what each function answers, for every input. -/
import Derived.Test.YtngambelchmihaaDoorChecked
import Derived.WalkKit
import Derived.WalkMore
import Derived.ScopeJumps
import Derived.WalkLawsBesides
import Derived.WalkSpells
import Derived.Outline
import Derived.Below
import Derived.Lib.Hide
import Derived.Laws.AppendOwn
import Derived.Test.YtngambelchmihaaDoorBase
import Derived.Test.YtngambelchmihaaDoorDec
import Derived.Test.YtngambelchmihaaDoorWWords
namespace Go.Proofs.YtngambelchmihaaDoor
open Go.RowKit Go.Proofs.YtngambelchmihaaDoorW.PrintWords

theorem numInfo : (Tryd.prog.info? 5).map (fun i => (i.zero, i.size, i.bytes)) = some (some (.int .u8 0), 1, 1) := by kernel_rfl
/-- What holds whenever Print's goto jumps. -/
def PJ (n : Int) (w : World) (a' : Act) (w' : World) : Prop :=
  Below w.heap.size w w' ∧ ∃ (m : Nat) (ds : List Int) (A : Option Addr) (c : Nat) (u5 u6 u7 u8 u9 u10 u11 u12 u13 u14 u15 u16 u17 u18 u19 u20 u21 u22 u23 u24 u25 u26 u27 u28 : Value), a' = { tmps := #[.int .i64 n, undef, .string (ByteArray.mk #[]), .int .u64 m, .slice A ds.length c, u5, u6, u7, u8, u9, u10, u11, u12, u13, u14, u15, u16, u17, u18, u19, u20, u21, u22, u23, u24, u25, u26, u27, u28], defers := [] } ∧ ReadsInt w' .u8 A ds.length ds ∧ m ≤ n.natAbs ∧ dg m ++ ds = dg n.natAbs
set_option maxRecDepth 100000 in
theorem print_any (n : Int) (hn : -9223372036854775808 ≤ n) (hn' : n ≤ 9223372036854775807) (w : World) :
    Calls Tryd.prog 7 #[.int .i64 n] w fun e w' => e = .returned (.string (prt n)) ∧ Below w.heap.size w w' := by
  have hN := dg_abs hn hn'
  by_cases hneg : n < 0
  all_goals
    go_enter Tryd.func7, Tryd.ntmps7
    have e1 : n < 0 → IntKind.u64.wrap (-IntKind.u64.wrap n) = (n.natAbs : Int) := fun _ => by simp [IntKind.wrap, IntKind.bits, IntKind.signed]; omega
    go_wp2
    refine wp_scope_once 0 (PJ n w) (fun a' _ => (intOf (a'.tmps.getD 3 undef)).toNat) rfl ?_ ?_
    · rintro a' w' ⟨hb, m, ds, A, c, u5, u6, u7, u8, u9, u10, u11, u12, u13, u14, u15, u16, u17, u18, u19, u20, u21, u22, u23, u24, u25, u26, u27, u28, rfl, hr, hmN, hd⟩
      have hl : (48 + (m : Int) % 10) ≤ 57 := by omega
      have hlen : ds.length ≤ 20 := by have h1 := congrArg List.length hd; rw [List.length_append] at h1; omega
      have HD := Lib.hid hd
      clear hd
      have hsz : w.heap.size ≤ w'.heap.size := hb.size
      go_wp2_with (at_builtin; go_must (refine print_append_row (w0 := w) w.heap.size rfl _ _ 39 5 .u8 1 rfl Tryd.underlying39 numInfo (by decide) _ [48 + (m : Int) % 10] ds A ds.length c rfl rfl (own_lit _ _ _ _ _ ?c1 ?c2) ?c3 ?c4 ?c5 ?c6 ?c7))
      case c1 => exact hsz
      case c2 => simp
      case c3 => exact hr.below (Below.alloc (Below.refl _ _) (Nat.le_refl _) _)
      case c4 => exact hb.alloc hsz _
      case c5 => simp; omega
      case c6 => simp only [List.length_cons, List.length_nil]; omega
      case c7 =>
        intro v1 w1 hown hB hg hat
        obtain ⟨A1, c1, rfl, hr1⟩ := own_reads hown
        have HS : ∀ c2 : Nat, (convert 39 9 (.slice A1 (ds.length + 1) c2)).run Tryd.prog w1 = .ok (.string (strOfNums ((48 + (m : Int) % 10) :: ds))) w1 := fun c2 => string_of_reads Tryd.underlying39 Tryd.underlying5 Tryd.underlying9 hr1
        clear hr hat hg hown
        by_cases hm10 : m < 10
        · have hq : (m : Int) / 10 = 0 := by omega
          have hD : Hid (strOfNums ((48 + (m : Int) % 10) :: ds) = strOfNums (dg n.natAbs)) := Lib.hid (by rw [← HD.out, dg_small hm10]; rfl)
          have hS : ¬ 9223372036854775807 < 1 + (strOfNums ((48 + (m : Int) % 10) :: ds)).size := by rw [strOfNums_size]; simp only [List.length_cons]; omega
          go_wp2
          simp only [Exit.jump]
          go_ret
          refine ⟨?_, hB⟩
          first
            | (show Ending.returned (.string (strOfNums ((48 + (m : Int) % 10) :: ds))) = _; rw [hD.out]; unfold prt; rw [if_neg (by omega)])
            | (show Ending.returned (.string ({ data := #[45] } ++ strOfNums ((48 + (m : Int) % 10) :: ds))) = _; rw [hD.out]; unfold prt; rw [if_pos (by omega)])
        · have hm1 : ((m / 10 : Nat) : Int) = (m : Int) / 10 := by omega
          have HM := Lib.hid hm1
          clear hm1
          go_wp2
          go_step3
          refine ⟨rfl, ⟨hB, m / 10, (48 + (m : Int) % 10) :: ds, A1, c1, ?_⟩, ?_⟩
          · rw [HM.out]
            exact ⟨_, _, _, _, _, _, _, _, _, _, _, _, _, _, _, _, _, _, _, _, _, _, _, _, rfl, hr1, by omega, by rw [← HD.out, dg_step (by omega : 0 < m / 10)]; simp⟩
          · simp [intOf]; omega
    · intro hp
      go_wp2
      go_step3
      simp only [Exit.then]
      refine (by assumption : ∀ (a : Act) (w : World), _ → _) _ _ (hp _ _ ?_)
      refine ⟨Below.refl _ _, n.natAbs, [], none, 0, ?_⟩
      first
        | exact ⟨_, _, _, _, _, _, _, _, _, _, _, _, _, _, _, _, _, _, _, _, _, _, _, _, rfl, ReadsInt.nil _ _, Nat.le_refl _, by simp⟩
        | (rw [show ((n.natAbs : Nat) : Int) = n from by omega]; exact ⟨_, _, _, _, _, _, _, _, _, _, _, _, _, _, _, _, _, _, _, _, _, _, _, _, rfl, ReadsInt.nil _ _, Nat.le_refl _, by simp⟩)
end Go.Proofs.YtngambelchmihaaDoor
