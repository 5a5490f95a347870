/- strconv.FormatUint at base 16. -/
import Derived.Test.YtlfkachphpneiaaDoorChecked
import Derived.Test.YtlfkachphpneiaaDoorHex
import Derived.Test.YtlfkachphpneiaaDoorWWords
import Derived.WalkLawsBesides
import Derived.WalkSpells
import Derived.Outline
import Derived.Lib.Hide
import Derived.Lib.LaidTab
namespace Go.Proofs.YtlfkachphpneiaaDoor
open Go.RowKit Go.Proofs.YtlfkachphpneiaaDoorW.PrintWords

/-- The cell of the library's table that is read at 16. -/
def Tab16 (w : World) : Prop := w.cell? ⟨6, 15, none⟩ = some (.int .u8 4)
theorem tz_at : IntKind.u64.wrap (bits BinOp.and IntKind.u64 16 (IntKind.u64.wrap (-16)) * 285870213051353865) / 288230376151711744 = 15 := by decide +kernel
set_option maxRecDepth 100000 in
theorem tz16 (w : World) (hT : Tab16 w) : Calls Tryd.prog 73 #[.int .u64 16] w fun e w' => e = .returned (.int .i64 4) ∧ w = w' := by
  have hc : w.cell? ⟨6, 15, none⟩ = some (.int .u8 4) := hT
  have he := tz_at
  go_enter Tryd.func73, Tryd.ntmps73
  go_wp2
  go_ret
  exact ⟨rfl, rfl⟩
theorem Tab16.below {w w' : World} (h : Tab16 w) (hb : Below w.heap.size w w') : Tab16 w' := pw_cell_below hb h
set_option maxRecDepth 100000 in
theorem pow16 (w : World) : Calls Tryd.prog 72 #[.int .i64 16] w fun e w' => e = .returned (.bool true) ∧ w = w' := by
  have he : bits BinOp.and IntKind.i64 16 15 = 0 := by decide +kernel
  go_enter Tryd.func72, Tryd.ntmps72
  go_wp2
  go_ret
  exact ⟨rfl, rfl⟩
/-- The local array: from k on it holds digits. -/
def Digs (B k : Nat) (ds : List Int) (wr : World) : Prop := ∃ cs : Array Value, wr.heap[B]? = some (.cells cs 101 (0, 0)) ∧ cs.size = 65 ∧ k + ds.length = 65 ∧ ∀ j, j < ds.length → cs[k + j]? = some (.int .u8 (ds.getD j 0))
theorem Digs.cell {B k : Nat} {ds : List Int} {wr : World} (h : Digs B k ds wr) (i : Nat) (hi : i < 65) : ∃ v, wr.cell? ⟨B, i, none⟩ = some v ∧ wr.frozen? ⟨B, i, none⟩ = false := by
  obtain ⟨cs, hh, hs, _, _⟩ := h
  refine ⟨cs[i]'(by omega), ?_, by simp [World.frozen?, hh]⟩
  simp [World.cell?, hh, Array.getElem?_eq_getElem (show i < cs.size by omega)]
theorem Digs.store {B k : Nat} {ds : List Int} {wr : World} (h : Digs B (k + 1) ds wr) (d : Int) : Digs B k (d :: ds) (wr.setCell ⟨B, k, none⟩ (.int .u8 d)) := by
  obtain ⟨cs, hh, hs, hl, hc⟩ := h
  refine ⟨cs.setIfInBounds k (.int .u8 d), ?_, by simp [hs], by simp; omega, fun j hj => ?_⟩
  · have := (Array.getElem?_eq_some_iff.1 hh).1
    simp [World.setCell, Array.getElem?_modify, hh]
  · rcases j with _ | j
    · rw [Nat.add_zero, Array.getElem?_setIfInBounds_self_of_lt (by omega)]
      rfl
    · rw [Array.getElem?_setIfInBounds_ne (by omega), show k + (j + 1) = k + 1 + j by omega, hc j (by simp at hj; omega)]
      rfl
theorem Digs.reads {B k : Nat} {ds : List Int} {wr : World} (h : Digs B k ds wr) : ReadsInt wr .u8 (some ⟨B, k, none⟩) (65 - k) ds := by
  obtain ⟨cs, hh, hs, hl, hc⟩ := h
  refine ⟨by omega, by omega, fun _ => ⟨_, rfl, fun j hj => ?_⟩⟩
  have ha : (⟨B, k, none⟩ : Addr).add j = ⟨B, k + j, none⟩ := by unfold Addr.add; split <;> simp_all
  rw [ha]
  simp [World.cell?, hh, hc j (by omega)]
theorem hx_pos (m : Nat) : 0 < (hx m).length := by
  by_cases h : m < 16
  · rw [hx_small h]; simp
  · rw [hx_step (by omega)]; simp
theorem and15 (m : Nat) (h : m < 18446744073709551616) : bits BinOp.and IntKind.u64 (m : Int) 15 = (m : Int) % 16 := by
  have h1 := bits_and_u64_nat m 15 h (by omega)
  rw [show ((15 : Nat) : Int) = 15 from rfl] at h1
  rw [h1, show m &&& 15 = m % 16 from Nat.and_two_pow_sub_one_eq_mod m 4]
  omega
abbrev digitSigns : ByteArray := { data := #[48, 49, 50, 51, 52, 53, 54, 55, 56, 57, 97, 98, 99, 100, 101, 102, 103, 104, 105, 106, 107, 108, 109, 110, 111, 112, 113, 114, 115, 116, 117, 118, 119, 120, 121, 122] }
theorem sign_at : ∀ d : Fin 16, ((digitSigns[d.val]'(Nat.lt_trans d.isLt (by decide))).toNat : Int) = hd (d.val : Int) := by decide
theorem sign_at' (d : Nat) (h : d < 16) (h' : d < digitSigns.size) : ((digitSigns[d]'h').toNat : Int) = hd (d : Int) := sign_at ⟨d, h⟩
theorem run_tail (B k : Nat) (hk : k ≤ 64) (W : World) : (Instr.sliceAt 101 (.pointer (some ⟨B, 0, none⟩)) (some (.int .i64 (k : Int))) none none).run Tryd.prog W = .ok (.slice (some ⟨B, k, none⟩) (65 - k) (65 - k)) W := by
  have hn : Tryd.prog.arrayLen 101 = 65 := by kernel_rfl
  have hu : Tryd.prog.underlying 101 = some (.array (Tryd.prog.arrayLen 101) (Tryd.prog.elem 101)) := by kernel_rfl
  have hz : (sizeOf (Tryd.prog.elem 101)).run Tryd.prog W = .ok 1 W := by kernel_rfl
  have ha : (⟨B, 0, none⟩ : Addr).add k = ⟨B, k, none⟩ := add_plain B k
  rw [run_sliceAt_array_l W 101 ⟨B, 0, none⟩ hu .i64 (k : Int) (by omega) (by rw [hn]; omega), hz, hn]
  simp only [Result.andThen, slicedAt, Int.toNat_natCast, Nat.mul_one, ha]
  rw [if_neg (by omega)]
set_option maxRecDepth 100000 in
set_option maxHeartbeats 1000000 in
theorem format16 (n : Nat) (hn : n < 18446744073709551616) (w : World) (hT : Tab16 w) : Calls Tryd.prog 60 #[.slice none 0 0, .int .u64 n, .int .i64 16, .bool false, .bool false] w fun e w' => e = .returned (.tuple #[.slice none 0 0, .string (strOfNums (hx n))]) ∧ Below w.heap.size w w' := by
  have hT1 : Tab16 (w.alloc (.cells Tryd.zeroCells101 101)) := hT.below (below_alloc (Below.refl _ _) _)
  go_enter Tryd.func60, Tryd.ntmps60
  go_wp2_with (first | (go_at_call 72; refine (pow16 _).mono ?_; rintro e w' ⟨rfl, rfl⟩) | (go_at_call 73; refine (tz16 _ hT1).mono ?_; rintro e w' ⟨rfl, rfl⟩))
  go_loopw [1, 13] (fun u i wr => ∃ (m k : Nat) (ds : List Int), u = .int .u64 m ∧ i = .int .i64 k ∧ Digs w.heap.size k ds wr ∧ Below w.heap.size w wr ∧ m ≤ n ∧ hx m ++ ds = hx n) (fun u _ _ => (intOf u).toNat)
  case atStart =>
    refine ⟨n, 65, [], rfl, rfl, ⟨Tryd.zeroCells101, ?_, ?_, by simp, fun j hj => absurd hj (by simp)⟩, below_alloc (Below.refl _ _) _, Nat.le_refl _, by simp⟩
    · exact heap_alloc_new w _
    · kernel_rfl
  case round =>
    obtain ⟨m, k, ds, rfl, rfl, hD, hb, hmn, hd⟩ := hrel
    obtain ⟨l1, l2, _⟩ := hk_hx 15 n (by omega)
    have l3 := hx_pos m
    have l4 : k + ds.length = 65 := by obtain ⟨_, _, _, h, _⟩ := hD; exact h
    have l5 := congrArg List.length hd
    rw [List.length_append] at l5
    obtain ⟨k, rfl⟩ : ∃ k', k = k' + 1 := ⟨k - 1, by omega⟩
    have l6 : 48 ≤ k := by omega
    have l7 : k ≤ 64 := by omega
    have e0 : ((k + 1 : Nat) : Int) - 1 = (k : Int) := by omega
    obtain ⟨v, hc, hf⟩ := hD.cell k (by omega)
    have HD := Lib.hid hd
    clear hd l1 l2 l3 l4 l5
    by_cases h16 : m < 16
    · have hD2 := hD.store (hd (m : Int))
      have HS := fun W => run_tail w.heap.size k l7 W
      have HT := string_of_reads (dst := 9) (c := 65 - k) Tryd.underlying69 Tryd.underlying5 Tryd.underlying9 hD2.reads
      have hsg := sign_at' m h16 (by exact Nat.lt_trans h16 (by decide))
      have hE : Hid (strOfNums (hx n) = strOfNums (hd (m : Int) :: ds)) := Lib.hid (by rw [← HD.out, hx_small h16, Int.emod_eq_of_lt (by omega) (by omega)]; rfl)
      go_wp2
      go_ret2
      exact ⟨by rw [hE.out]; rfl, hb.setCell (Nat.le_refl _) _⟩
    · have hand := and15 m (by omega)
      have hsg := sign_at' (m % 16) (by omega) (by exact Nat.lt_trans (Nat.mod_lt _ (by decide)) (by decide))
      have hD2 := hD.store (hd ((m % 16 : Nat) : Int))
      go_wp2
      go_roundw
      case rel => exact ⟨m / 16, k, hd ((m % 16 : Nat) : Int) :: ds, by rw [show ((m / 16 : Nat) : Int) = (m : Int) / 16 from by omega], rfl, hD2, hb.setCell (Nat.le_refl _) _, by omega, by rw [← HD.out, hx_step (show 16 ≤ m by omega)]; simp⟩
      case measure => simp [intOf]; omega
theorem formatuint16 (n : Nat) (hn : n < 18446744073709551616) (w : World) (hT : Tab16 w) : Calls Tryd.prog 39 #[.int .u64 n, .int .i64 16] w fun e w' => e = .returned (.string (strOfNums (hx n))) ∧ Below w.heap.size w w' := by
  have h1 : Calls Tryd.prog 44 #[.int .u64 n, .int .i64 16] w fun e w' => e = .returned (.string (strOfNums (hx n))) ∧ Below w.heap.size w w' := by
    go_enter Tryd.func44, Tryd.ntmps44
    go_wp2_with (go_at_call 60; refine (format16 n hn _ hT).mono ?_; rintro e w' ⟨rfl, hb⟩)
    go_ret
    exact ⟨rfl, hb⟩
  go_enter Tryd.func39, Tryd.ntmps39
  go_wp2_with (go_at_call 44; refine h1.mono ?_; rintro e w' ⟨rfl, hb⟩)
  go_ret
  exact ⟨rfl, hb⟩
end Go.Proofs.YtlfkachphpneiaaDoor
