/- The walks of the reference's integers (loomref1). -/
import Derived.Test.YtngambelchmihaaDoorNumP
import Derived.Test.YtngambelchmihaaDoorPlain1
import Derived.OpenShut
namespace Go.Proofs.YtngambelchmihaaDoor
open Go.RowKit Go.Proofs.YtngambelchmihaaDoorW.PrintWords

theorem strOfNums_cons (c : Int) (ds : List Int) : strOfNums [c] ++ strOfNums ds = strOfNums (c :: ds) := by
  apply ByteArray.ext
  rw [ByteArray.data_append]
  simp [strOfNums]
theorem run_one_byte (c : Int) (W : World) : (convert 39 9 (.slice (some ⟨W.heap.size, 0, none⟩) 1 1)).run Tryd.prog (W.alloc (.cells #[.int .u8 c] 5)) = .ok (.string (strOfNums [c])) (W.alloc (.cells #[.int .u8 c] 5)) := by
  have h := own_lit W W.heap.size 5 .u8 [c] (Nat.le_refl _) (by simp)
  obtain ⟨A, c', e, hr⟩ := own_reads h
  simp only [nums, List.map_cons, List.map_nil, List.length_cons, List.length_nil] at e hr
  injection e with e1 e2 e3
  subst e1
  exact string_of_reads Tryd.underlying39 Tryd.underlying5 Tryd.underlying9 hr
set_option maxHeartbeats 1000000 in
theorem rprint_any (n : Int) (hn : -9223372036854775808 ≤ n) (hn' : n ≤ 9223372036854775807) (w : World) :
    Calls Tryd.prog 24 #[.int .i64 n] w fun e w' => e = .returned (.string (prt n)) ∧ Below w.heap.size w w' := by
  have hN := dg_abs hn hn'
  have kb := fun (c : Int) (W : World) => run_one_byte c W
  by_cases hneg : n < 0
  all_goals
    have e1 : n < 0 → IntKind.u64.wrap (-IntKind.u64.wrap n) = (n.natAbs : Int) := fun _ => by simp [IntKind.wrap, IntKind.bits, IntKind.signed]; omega
    go_enter Tryd.func24, Tryd.ntmps24
    go_wp2
    go_loopw [3, 4] (fun u s wr => ∃ (m : Nat) (ds : List Int), u = .int .u64 m ∧ s = .string (strOfNums ds) ∧ Below w.heap.size w wr ∧ m ≤ n.natAbs ∧ dg m ++ ds = dg n.natAbs) (fun u _ _ => (intOf u).toNat)
    case atStart =>
      first
        | exact ⟨n.natAbs, [], rfl, rfl, Below.refl _ _, Nat.le_refl _, by simp⟩
        | exact ⟨n.natAbs, [], by rw [show ((n.natAbs : Nat) : Int) = n from by omega], rfl, Below.refl _ _, Nat.le_refl _, by simp⟩
    case round =>
      obtain ⟨m, ds, rfl, rfl, hb, hmN, hd⟩ := hrel
      have hl : (48 + (m : Int) % 10) ≤ 57 := by omega
      have hlen : ds.length ≤ 20 := by have h1 := congrArg List.length hd; rw [List.length_append] at h1; omega
      have HD := Lib.hid hd
      clear hd
      have hz : ¬ 9223372036854775807 < (strOfNums [48 + (m : Int) % 10]).size + (strOfNums ds).size := by rw [strOfNums_size, strOfNums_size]; simp only [List.length_cons, List.length_nil]; omega
      have hz2 : ¬ 9223372036854775807 < 1 + ((strOfNums [48 + (m : Int) % 10]).size + (strOfNums ds).size) := by rw [strOfNums_size, strOfNums_size]; simp only [List.length_cons, List.length_nil]; omega
      by_cases hm10 : m < 10
      · have hq : (m : Int) / 10 = 0 := by omega
        have hD : Hid (strOfNums [48 + (m : Int) % 10] ++ strOfNums ds = strOfNums (dg n.natAbs)) := Lib.hid (by rw [strOfNums_cons, ← HD.out, dg_small hm10]; rfl)
        go_wp2
        go_ret
        refine ⟨?_, hb.alloc hb.size _⟩
        first
          | (show Ending.returned (.string (strOfNums [48 + (m : Int) % 10] ++ strOfNums ds)) = _; rw [hD.out]; unfold prt; rw [if_neg (by omega)])
          | (show Ending.returned (.string ({ data := #[45] } ++ (strOfNums [48 + (m : Int) % 10] ++ strOfNums ds))) = _; rw [hD.out]; unfold prt; rw [if_pos (by omega)])
      · have hq : ((m : Int) / 10 == 0) = false := by rw [beq_eq_false_iff_ne]; omega
        go_wp2
        go_roundw
        case rel => exact ⟨m / 10, (48 + (m : Int) % 10) :: ds, by rw [show ((m / 10 : Nat) : Int) = (m : Int) / 10 from by omega], by rw [strOfNums_cons], hb.alloc hb.size _, by omega, by rw [← HD.out, dg_step (by omega : 0 < m / 10)]; simp⟩
        case measure => simp [intOf]; omega

/-- The reference's reading of digits, modulo 2^64. -/
def ru (u : Int) : List UInt8 → Int
  | [] => u
  | c :: r => ru (if 48 ≤ (c.toNat : Int) ∧ (c.toNat : Int) ≤ 57 then IntKind.u64.wrap (IntKind.u64.wrap (10 * u) + ((c.toNat : Int) - 48)) else u) r
theorem ru_digit (a d : Nat) (hd : d < 10) (r : List UInt8) (h : a * 10 + d < 18446744073709551616) : ru a (UInt8.ofNat (48 + d) :: r) = ru ((a * 10 + d : Nat) : Int) r := by
  rw [ru, digit_toNat d hd, if_pos (by omega), u64_wrap, u64_wrap]
  congr 1
  omega
theorem ru_dg (m : Nat) : ∀ r, m < 18446744073709551616 → ru 0 (dgB m ++ r) = ru m r := by
  induction m using Nat.strongRecOn with
  | _ m ih =>
    intro r hm
    by_cases h : m < 10
    · have := ru_digit 0 (m % 10) (by omega) r (by omega)
      rw [dgB_small h, List.cons_append, List.nil_append]
      rw [show ((0 : Nat) : Int) = 0 from rfl] at this
      rw [this]
      congr 1
      omega
    · rw [dgB_step (by omega), List.append_assoc, ih (m / 10) (by omega) _ (by omega), List.cons_append, List.nil_append, ru_digit (m / 10) (m % 10) (by omega) r (by omega)]
      congr 1
      omega
/-- The number that the reference reads off a text, before it prints it again. -/
def rn (s : ByteArray) : Int := if 0 < s.size ∧ bt s 0 = 45 then wrap64 (0 - wrap64 (ru 0 s.data.toList)) else wrap64 (ru 0 s.data.toList)
theorem rn_bd (s : ByteArray) : -9223372036854775808 ≤ rn s ∧ rn s ≤ 9223372036854775807 := by
  unfold rn; split <;> exact wrap64_bd _
theorem bt_zero {s : ByteArray} {c : UInt8} {r : List UInt8} (h : s.data.toList = c :: r) : 0 < s.size ∧ bt s 0 = c.toNat := by
  have hs : s.size = r.length + 1 := by
    have := congrArg List.length h
    rw [data_length] at this
    simpa using this
  refine ⟨by omega, ?_⟩
  unfold bt
  rw [dif_pos (show (0 : Int).toNat < s.size by show 0 < s.size; omega)]
  have h0 : s.data.toList[0]? = some c := by rw [h]; rfl
  have h1 : s.data[0]? = some c := by rw [← h0, Array.getElem?_toList]
  have h2 : s[(0 : Int).toNat]'(by show 0 < s.size; omega) = c := by
    have := (Array.getElem?_eq_some_iff.1 h1).2
    exact this
  rw [h2]
theorem rn_prt {n : Int} (hn : -9223372036854775808 ≤ n) (hn' : n ≤ 9223372036854775807) : rn (prt n) = n := by
  have hl := prt_list n
  unfold rn
  by_cases h : n < 0
  · rw [if_pos h] at hl
    obtain ⟨h1, h2⟩ := bt_zero hl
    rw [if_pos ⟨h1, by rw [h2]; rfl⟩, hl]
    have : ru 0 ([45] ++ dgB n.natAbs) = (n.natAbs : Int) := by
      have h3 := ru_dg n.natAbs [] (by omega)
      rw [List.append_nil] at h3
      rw [List.cons_append, List.nil_append, ru, if_neg (by decide), h3]
      rfl
    rw [this]
    unfold wrap64
    omega
  · rw [if_neg h, List.nil_append] at hl
    obtain ⟨c, r, hc, h1, h2⟩ := dgB_head n.natAbs
    have h4 := hl.trans hc
    obtain ⟨h5, h6⟩ := bt_zero h4
    rw [if_neg (by rintro ⟨_, h7⟩; omega), hl]
    have h3 := ru_dg n.natAbs [] (by omega)
    rw [List.append_nil] at h3
    rw [h3]
    show wrap64 (n.natAbs : Int) = n
    unfold wrap64
    omega
/-- The reference reads just what strconv's parse reads. -/
theorem rn_tells (s : ByteArray) : (prt (rn s) = s → rdv s = rn s ∧ rdk s = true) ∧ (prt (rn s) ≠ s → rdv s = 0 ∧ rdk s = false) := by
  obtain ⟨b1, b2⟩ := rn_bd s
  refine ⟨fun h => ?_, fun h => rd_none fun n h1 h2 he => h ?_⟩
  · have := rd_prt b1 b2
    rwa [h] at this
  · subst he
    rw [rn_prt h1 h2]
end Go.Proofs.YtngambelchmihaaDoor
