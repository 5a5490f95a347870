/- strconv.ParseUint at base 16, of up to sixteen signs. -/
import Derived.Test.YtlfkachphpneiaaDoorCPrint
namespace Go.Proofs.YtlfkachphpneiaaDoor
open Go.RowKit Go.Proofs.YtlfkachphpneiaaDoorW.PrintWords

/-- A letter made small. -/
def lw (c : Int) : Int := bits BinOp.or IntKind.u8 c 32
/-- What a sign counts, at base 16. -/
def hv (c : Int) : Option Nat := if 48 ≤ c ∧ c ≤ 57 then some (c - 48).toNat else if 97 ≤ lw c ∧ lw c ≤ 102 then some (lw c - 87).toNat else none
def pu (m : Nat) : List UInt8 → Option Nat
  | [] => some m
  | c :: r => match hv (c.toNat : Int) with | some d => pu (16 * m + d) r | none => none
theorem lw_bd (c : Nat) (h : c < 256) : 0 ≤ lw c ∧ lw c ≤ 255 := by
  have := u8_or_nat c 32 h (by omega)
  have h2 : c ||| 32 < 256 := Nat.or_lt_two_pow (n := 8) h (by omega)
  unfold lw
  rw [show (32 : Int) = ((32 : Nat) : Int) from rfl, this]
  omega
theorem hv_lt {c : Int} {d : Nat} (h : hv c = some d) : d < 16 := by
  unfold hv at h
  split at h
  · injection h with h; omega
  · split at h
    · injection h with h; omega
    · cases h
theorem lower_any (c : Int) (w : World) : Calls Tryd.prog 51 #[.int .u8 c] w fun e w' => e = .returned (.int .u8 (lw c)) ∧ w = w' := by
  go_enter Tryd.func51, Tryd.ntmps51
  go_wp2
  go_ret
  exact ⟨rfl, rfl⟩
/-- How the parse ends: with the number, or with an error that is no nil. -/
def PU (r : Option Nat) (e : Ending) : Prop := (∃ v, r = some v ∧ e = .returned (.tuple #[.int .u64 (v : Int), .nilIface])) ∨ (r = none ∧ e = .returned (.tuple #[.int .u64 0, .iface 77 (.int .i64 2)]))
theorem drop_at (s : ByteArray) (k : Nat) (h : k < s.size) : s.data.toList.drop k = s[k] :: s.data.toList.drop (k + 1) := by
  rw [List.drop_eq_getElem_cons (by simpa using h)]
  rfl
theorem pu_step {s : ByteArray} {k m d c : Nat} {h : k < s.size} (HP : Hid ((match hv ((s[k]).toNat : Int) with | some d => pu (16 * m + d) (s.data.toList.drop (k + 1)) | none => none) = pu 0 s.data.toList)) (HC : Hid (c = (s[k]).toNat)) (HM : Hid (m < 16 ^ k)) (hd : hv (c : Int) = some d) :
    16 * m + d < 16 ^ (k + 1) ∧ pu (16 * m + d) (s.data.toList.drop (k + 1)) = pu 0 s.data.toList := by
  have h1 := HP.out
  rw [← HC.out, hd] at h1
  have h2 := hv_lt hd
  have h3 := HM.out
  exact ⟨by rw [Nat.pow_succ]; omega, h1⟩
theorem pu_stop {s : ByteArray} {k m c : Nat} {h : k < s.size} (HP : Hid ((match hv ((s[k]).toNat : Int) with | some d => pu (16 * m + d) (s.data.toList.drop (k + 1)) | none => none) = pu 0 s.data.toList)) (HC : Hid (c = (s[k]).toNat)) (hd : hv (c : Int) = none) : pu 0 s.data.toList = none := by
  have h1 := HP.out
  rw [← HC.out, hd] at h1
  exact h1.symm
set_option maxRecDepth 100000 in
set_option maxHeartbeats 8000000 in
theorem ipu_any (s : ByteArray) (h0 : 0 < s.size) (hs : s.size ≤ 16) (w : World) : Calls Tryd.prog 41 #[.string s, .int .i64 16, .int .i64 64] w fun e w' => PU (pu 0 s.data.toList) e ∧ Below w.heap.size w w' := by
  have hne : s.toList.isEmpty = false := by
    rw [ByteArray.toList_eq, List.isEmpty_eq_false_iff]
    intro h
    have := congrArg List.length h
    rw [data_length, List.length_nil] at this
    omega
  have kb := fun W => print_bytes (P := Tryd.prog) 9 69 5 Tryd.underlying9 Tryd.underlying69 Tryd.underlying5 s W
  have hu1 : IntKind.u64.wrap 18446744073709551616 = 0 := by decide +kernel
  have hu2 : IntKind.u64.wrap (-1) = 18446744073709551615 := by decide +kernel
  go_enter Tryd.func41, Tryd.ntmps41
  go_wp2
  have hB := bytes_below (Below.refl w.heap.size w) (Nat.le_refl _) 5 s
  have hcell := fun j (hj : j < s.size) => Lib.bytesWorld_cell w 5 s j hj
  clear hu1 hu2 kb hne
  generalize Lib.bytesWorld w 5 s = w1 at *
  generalize grownCap w s.size 0 5 = cap at *
  obtain ⟨B, hBB⟩ : ∃ B, B = w.heap.size := ⟨_, rfl⟩
  rw [← hBB] at hcell ⊢
  clear hBB
  generalize hcut : (1152921504606846976 : Int) = CUT
  generalize hmax : (18446744073709551615 : Int) = MX
  have HCUT := Lib.hid hcut
  have HMX := Lib.hid hmax
  clear hcut hmax
  go_loop [12, 13, 101] (fun u n i => ∃ (k m : Nat), k ≤ s.size ∧ u = .bool false ∧ i = .int .i64 k ∧ n = .int .u64 m ∧ m < 16 ^ k ∧ pu m (s.data.toList.drop k) = pu 0 s.data.toList) (fun _ _ i => s.size - (intOf i).toNat)
  case atStart => exact ⟨0, 0, Nat.zero_le _, rfl, rfl, rfl, by omega, by simp⟩
  case round =>
    obtain ⟨k, m, hk, rfl, rfl, rfl, hm, hp⟩ := hrel
    by_cases hlt : k < s.size
    · have hd := drop_at s k hlt
      rw [hd, pu] at hp
      have HP := Lib.hid hp
      have hck0 := hcell k hlt
      have hg : s.data.toList.getD k 0 = s[k] := by
        rw [List.getD_eq_getElem?_getD, List.getElem?_eq_getElem (by rw [data_length]; exact hlt)]
        rfl
      rw [hg] at hck0
      obtain ⟨c, hc⟩ : ∃ c : Nat, c = (s[k]).toNat := ⟨_, rfl⟩
      have hc256 : c < 256 := by rw [hc]; exact (s[k]).toNat_lt
      have hck : w1.cell? ⟨B, k, none⟩ = some (.int .u8 (c : Int)) := by rw [hc]; exact hck0
      have HC := Lib.hid hc
      obtain ⟨b1, b2⟩ := lw_bd c hc256
      have hm16 : m < 1152921504606846976 := Nat.lt_of_lt_of_le hm (Nat.pow_le_pow_right (by decide) (by omega : k ≤ 15))
      have hcu : (m : Int) < CUT := by rw [← HCUT.out]; omega
      have hw1 : IntKind.u64.wrap ((m : Int) * 16) = (m : Int) * 16 := by simp [IntKind.wrap, IntKind.bits, IntKind.signed]; omega
      have HM := Lib.hid hm
      clear hp hd hcell hc hm hck0 hg
      by_cases hA : 48 ≤ (c : Int) ∧ (c : Int) ≤ 57
      · obtain ⟨g1, g2⟩ := hA
        have hw2 : IntKind.u64.wrap ((m : Int) * 16 + ((c : Int) - 48)) = (m : Int) * 16 + ((c : Int) - 48) := by simp [IntKind.wrap, IntKind.bits, IntKind.signed]; omega
        have hmx : (m : Int) * 16 + ((c : Int) - 48) ≤ MX := by rw [← HMX.out]; omega
        clear hm16
        go_wp2_with (go_at_call 51; refine (lower_any _ _).mono ?_; rintro e w' ⟨rfl, rfl⟩)
        obtain ⟨n1, n2⟩ := pu_step HP HC HM (show hv (c : Int) = some (c - 48) by unfold hv; rw [if_pos ⟨g1, g2⟩]; congr 1; omega)
        go_round
        case rel => exact ⟨k + 1, 16 * m + (c - 48), by omega, rfl, by go_num, by rw [show ((16 * m + (c - 48) : Nat) : Int) = (m : Int) * 16 + ((c : Int) - 48) from by omega], n1, n2⟩
        case measure => simp [intOf]; omega
      · by_cases hB1 : 97 ≤ lw (c : Int) ∧ lw (c : Int) ≤ 102
        · obtain ⟨g1, g2⟩ := hB1
          have hw2 : IntKind.u64.wrap ((m : Int) * 16 + (lw (c : Int) - 97 + 10)) = (m : Int) * 16 + (lw (c : Int) - 97 + 10) := by simp [IntKind.wrap, IntKind.bits, IntKind.signed]; omega
          have hmx : (m : Int) * 16 + (lw (c : Int) - 97 + 10) ≤ MX := by rw [← HMX.out]; omega
          obtain ⟨n1, n2⟩ := pu_step HP HC HM (show hv (c : Int) = some (lw (c : Int) - 87).toNat by unfold hv; rw [if_neg hA, if_pos ⟨g1, g2⟩])
          have HN := Lib.hid (And.intro n1 n2)
          have HA := Lib.hid hA
          have h95 : ((c : Int) == 95) = false := by
            rw [beq_eq_false_iff_ne]
            intro h
            rw [h] at g2
            have h7 : lw 95 = 127 := by decide +kernel
            omega
          clear hm16 n1 n2
          by_cases hA1 : 48 ≤ (c : Int)
          · have hA2 : ¬ (c : Int) ≤ 57 := fun h => hA ⟨hA1, h⟩
            clear hA
            go_wp2_with (go_at_call 51; refine (lower_any _ _).mono ?_; rintro e w' ⟨rfl, rfl⟩)
            go_round
            case rel => exact ⟨k + 1, 16 * m + (lw (c : Int) - 87).toNat, by omega, rfl, by go_num, by rw [show ((16 * m + (lw (c : Int) - 87).toNat : Nat) : Int) = (m : Int) * 16 + (lw (c : Int) - 97 + 10) from by omega], HN.out.1, HN.out.2⟩
            case measure => simp [intOf]; omega
          · clear hA
            go_wp2_with (go_at_call 51; refine (lower_any _ _).mono ?_; rintro e w' ⟨rfl, rfl⟩)
            go_round
            case rel => exact ⟨k + 1, 16 * m + (lw (c : Int) - 87).toNat, by omega, rfl, by go_num, by rw [show ((16 * m + (lw (c : Int) - 87).toNat : Nat) : Int) = (m : Int) * 16 + (lw (c : Int) - 97 + 10) from by omega], HN.out.1, HN.out.2⟩
            case measure => simp [intOf]; omega
        · have hn := pu_stop HP HC (show hv (c : Int) = none by unfold hv; rw [if_neg hA, if_neg hB1])
          have HN := Lib.hid hn
          clear hm16 hn
          by_cases hA1 : 48 ≤ (c : Int)
          · have hA2 : ¬ (c : Int) ≤ 57 := fun h => hA ⟨hA1, h⟩
            clear hA
            by_cases hB2 : 97 ≤ lw (c : Int)
            · have hB3 : ¬ lw (c : Int) ≤ 102 := fun h => hB1 ⟨hB2, h⟩
              clear hB1
              go_wp2_with (go_at_call 51; refine (lower_any _ _).mono ?_; rintro e w' ⟨rfl, rfl⟩)
              all_goals
                go_ret2
                exact ⟨Or.inr ⟨HN.out, rfl⟩, hB⟩
            · clear hB1
              go_wp2_with (go_at_call 51; refine (lower_any _ _).mono ?_; rintro e w' ⟨rfl, rfl⟩)
              all_goals
                go_ret2
                exact ⟨Or.inr ⟨HN.out, rfl⟩, hB⟩
          · clear hA
            by_cases hB2 : 97 ≤ lw (c : Int)
            · have hB3 : ¬ lw (c : Int) ≤ 102 := fun h => hB1 ⟨hB2, h⟩
              clear hB1
              go_wp2_with (go_at_call 51; refine (lower_any _ _).mono ?_; rintro e w' ⟨rfl, rfl⟩)
              all_goals
                go_ret2
                exact ⟨Or.inr ⟨HN.out, rfl⟩, hB⟩
            · clear hB1
              go_wp2_with (go_at_call 51; refine (lower_any _ _).mono ?_; rintro e w' ⟨rfl, rfl⟩)
              all_goals
                go_ret2
                exact ⟨Or.inr ⟨HN.out, rfl⟩, hB⟩
    · have hn : some m = pu 0 s.data.toList := by
        rw [List.drop_eq_nil_of_le (by rw [data_length]; omega), pu] at hp
        exact hp
      have HN := Lib.hid hn
      clear hp hn hcell hm
      go_wp2
      go_ret2
      exact ⟨Or.inl ⟨m, HN.out.symm, rfl⟩, hB⟩
end Go.Proofs.YtlfkachphpneiaaDoor
