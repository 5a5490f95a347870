/- LinkSlots. -/
import Derived.Test.YtpdjkclacbgneaaL7
set_option linter.unusedVariables false
set_option linter.unusedSimpArgs false
namespace Go.Proofs.Ytpdjkclacbgneaa
open Go.RowKit Go.Shelf Go.Proofs.YtpdjkclacbgneaaW.PrintWords Go.Proofs.Ytpdjkclacbgneaa.Pl

def tyC (l : List Int) (k : Nat) : Ty := ⟨l.getD k 0 % 3 + 1, nil⟩
def atC (l : List Int) : Nat → Int
  | 0 => 0
  | k + 1 => atC l k + words (tyC l k)
def slC (l : List Int) : Nat → List Sl
  | 0 => []
  | k + 1 => slC l k ++ [⟨letC k, ⟨fldC k, tyC l k, false⟩, atC l k⟩]
theorem slots_on {h : List Bool} {l : List Int} (hl : l.length ≤ 12) : ∀ k, k < l.length → slotsOn (pgC h l) [] 0 (ancC k).reverse = (slC l (k + 1), atC l (k + 1))
  | 0, hk => by
    show slotsOn (pgC h l) [] 0 ([nObject] ++ [letC 0]) = _
    rw [slotsOn_add, cls_chain hl hk]
    have h0 : slotsOn (pgC h l) [] 0 [nObject] = ([], 0) := by
      rw [slotsOn, cls_obj hl]
      rfl
    rw [h0]
    rfl
  | k + 1, hk => by
    rw [ancC, List.reverse_cons, slotsOn_add, slots_on hl k (by omega), cls_chain hl hk]
    rfl
theorem slots_chain {h : List Bool} {l : List Int} (hl : l.length ≤ 12) {k : Nat} (hk : k < l.length) : slots (pgC h l) (letC k) = (slC l (k + 1), atC l (k + 1)) := by
  unfold slots
  rw [show (pgC h l).h = hierC l.length from rfl, anc_chain _ hl _ hk]
  exact slots_on hl k hk
theorem find_none (l : List Int) : ∀ k i, k ≤ i → i < 12 → (slC l k).find? (fun s => decide (s.fd.name = fldC i)) = none
  | 0, _, _, _ => rfl
  | k + 1, i, h1, h2 => by
    rw [slC, List.find?_append, find_none l k i (by omega) h2, Option.none_or, List.find?_cons]
    have : decide ((Sl.mk (letC k) ⟨fldC k, tyC l k, false⟩ (atC l k)).fd.name = fldC i) = false := decide_eq_false (fun e => by
      have := fldC_inj k (by omega) i h2 e
      omega)
    rw [this]
    rfl
theorem find_slot (l : List Int) : ∀ k i, i < k → k ≤ 12 → (slC l k).find? (fun s => decide (s.fd.name = fldC i)) = some ⟨letC i, ⟨fldC i, tyC l i, false⟩, atC l i⟩
  | 0, i, h, _ => absurd h (Nat.not_lt_zero _)
  | k + 1, i, h1, h2 => by
    rw [slC, List.find?_append]
    by_cases hi : i < k
    · rw [find_slot l k i hi (by omega)]
      rfl
    · have : i = k := by omega
      subst this
      rw [find_none l i i (Nat.le_refl _) (by omega), Option.none_or, List.find?_cons]
      simp
theorem field_chain {h : List Bool} {l : List Int} (hl : l.length ≤ 12) {k i : Nat} (hk : k < l.length) (hi : i ≤ k) : fieldOf (pgC h l) (letC k) (fldC i) = (⟨letC i, ⟨fldC i, tyC l i, false⟩, atC l i⟩, true) := by
  unfold fieldOf
  rw [slots_chain hl hk, find_slot l (k + 1) i (by omega) (by omega)]
end Go.Proofs.Ytpdjkclacbgneaa
namespace Go.Proofs.Ytpdjkclacbgneaa
open Go.RowKit Go.Shelf Go.Proofs.YtpdjkclacbgneaaW.PrintWords Go.Proofs.Ytpdjkclacbgneaa.Pl

theorem fldC_main : ∀ i, i < 12 → fdM.all (fun f => !decide (f.name = fldC i)) = true := by decide +kernel
theorem slots_main {h : List Bool} {l : List Int} (hl : l.length ≤ 12) : (slots (pgC h l) nMain).1 = [⟨nMain, ⟨⟨#[99]⟩, ⟨2, nil⟩, false⟩, 0⟩, ⟨nMain, ⟨⟨#[110]⟩, ⟨1, nil⟩, false⟩, 2⟩] := by
  unfold slots
  rw [show (pgC h l).h = hierC l.length from rfl, anc_main _ hl]
  show (slotsOn (pgC h l) [] 0 ([nObject] ++ [nMain])).1 = _
  rw [slotsOn_add, cls_main hl]
  have h0 : slotsOn (pgC h l) [] 0 [nObject] = ([], 0) := by
    rw [slotsOn, cls_obj hl]
    rfl
  rw [h0]
  rfl
theorem field_main {h : List Bool} {l : List Int} (hl : l.length ≤ 12) {i : Nat} (hi : i < 12) : fieldOf (pgC h l) nMain (fldC i) = (default, false) := by
  unfold fieldOf
  rw [slots_main hl]
  have h1 := fldC_main i hi
  simp only [fdM, List.all_cons, List.all_nil, Bool.and_true, Bool.and_eq_true, Bool.not_eq_true', decide_eq_false_iff_not] at h1
  rw [List.find?_cons, List.find?_cons, List.find?_nil]
  rw [decide_eq_false h1.1, decide_eq_false h1.2]
theorem atC_b (l : List Int) : ∀ k, 0 ≤ atC l k ∧ atC l k ≤ 2 * k
  | 0 => ⟨Int.le_refl _, Int.le_refl _⟩
  | k + 1 => by
    have h1 := atC_b l k
    have h2 := words_two (tyC l k)
    rw [atC]
    omega
set_option maxRecDepth 10000 in
theorem eqSl (s f t : ByteArray) (k a : Int) (v : Bool) (w : World) : (Op.equalIn 10000 52 (.agg #[.string s, .string f, .int .i64 k, .string t, .bool v, .int .i64 a]) (.agg #[.string s, .string f, .int .i64 k, .string t, .bool v, .int .i64 a])).run Try.prog w = .ok true w := by
  have u3 := Try.underlying3
  have a3 := Try.isAgg3
  have z3 := Try.sizeOf3
  have u9 := Try.underlying9
  have a9 := Try.isAgg9
  have z9 := Try.sizeOf9
  have u4 := Try.underlying4
  have a4 := Try.isAgg4
  have z4 := Try.sizeOf4
  have hS : Try.prog.underlying 52 = some (.struct (Try.prog.fieldsOf 52)) := by kernel_rfl
  have hp : Try.prog.stoodInHeld 52 = false := by kernel_rfl
  have hS1 : Try.prog.underlying 50 = some (.struct (Try.prog.fieldsOf 50)) := by kernel_rfl
  have hp1 : Try.prog.stoodInHeld 50 = false := by kernel_rfl
  have HS1 := Lib.hid hS1
  clear hS1
  rw [show (10000 : Nat) = 9999 + 1 from rfl, run_equalIn_agg w 9999 52 _ _ hS hp]
  simp only [Program.fieldsOf, Try.underlying52]
  go_simp
end Go.Proofs.Ytpdjkclacbgneaa
namespace Go.Proofs.Ytpdjkclacbgneaa
open Go.RowKit Go.Shelf Go.Proofs.YtpdjkclacbgneaaW.PrintWords Go.Proofs.Ytpdjkclacbgneaa.Pl

theorem field_is {h : List Bool} {l : List Int} (hl : l.length ≤ 12) (pb : Nat) (cls f : Nm) (w : World) (H : ProgIs w pb (pgC h l)) (h8 : ∀ n, (clsOf (pgC h l) n).fields.length ≤ 8) {s : Sl} {b : Bool} (hf : fieldOf (pgC h l) cls f = (s, b)) :
    Calls Try.prog 20 #[.pointer (some ⟨pb, 0, none⟩), .string cls, .string f] w fun e w' => e = .returned (.tuple #[.agg #[.string s.cls, .string s.fd.name, .int .i64 s.fd.ty.kind, .string s.fd.ty.cls, .bool s.fd.vol, .int .i64 s.at_], .bool b]) ∧ Below w.heap.size w w' := by
  have := field_any pb (pgC h l) cls f w H h8
  rw [hf] at this
  exact this
theorem all_cls {P : Cl → Prop} {h : List Bool} {l : List Int} (hl : l.length ≤ 12) (h0 : P default) (h1 : P cObject) (h2 : P cFault) (h3 : P clM7) (h4 : ∀ j x b, P (clC7 j x b)) (n : Nm) : P (clsOf (pgC h l) n) := by
  by_cases hn : ∃ j, j < l.length ∧ n = letC j
  · obtain ⟨j, hj, rfl⟩ := hn
    rw [cls_chain hl hj]
    exact h4 _ _ _
  · have hne : ∀ c, c ∈ chainOf h 0 l → c.name ≠ n := fun c hc e => by
      obtain ⟨j, y, _, hj, rfl⟩ := mem_chain h l 0 c hc
      exact hn ⟨j, by omega, e.symm⟩
    have : clsOf (pgC h l) n = Pl.look default (Pl.put [(nObject, cObject), (nFault, cFault)] nMain clM7) n := look_fold n (chainOf h 0 l) _ hne
    rw [this]
    rcases look_mem (default : Cl) (Pl.put [(nObject, cObject), (nFault, cFault)] nMain clM7) n with e | ⟨k, e⟩
    · rw [e]; exact h0
    · have hm : Pl.put [(nObject, cObject), (nFault, cFault)] nMain clM7 = [(nObject, cObject), (nFault, cFault), (nMain, clM7)] := by kernel_rfl
      rw [hm] at e ⊢
      simp only [List.mem_cons, List.not_mem_nil, or_false, Prod.mk.injEq] at e
      rcases e with ⟨_, e⟩ | ⟨_, e⟩ | ⟨_, e⟩ <;> rw [e] <;> assumption
set_option maxRecDepth 100000 in
set_option maxHeartbeats 4000000 in
theorem slots_walk (A : Option Addr) (len cap : Nat) (l : List Int) (w : World) (hA : (Kd.int .u8).C w A len l) (hwf : ∀ n ∈ l, (Lit.int .u8 n).wf = true) : Calls Try.prog 7 #[.slice A len cap] w fun e w' => e = .returned (.bool true) ∧ Below w.heap.size w w' := by
  have HA := Aside0.mk hA
  have HWF := Aside0.mk hwf
  have hlen := hA.1
  have hmax := hA.2.1
  clear hA hwf
  go_enter Try.func7, Try.ntmps7
  go_wp2_with fail
  refine (known7_any w).mono ?_
  rintro e1 w1 ⟨rfl, hb1⟩
  have B1 := Aside0.mk hb1
  clear hb1
  by_cases h12 : 12 < len
  · have h12z : (len : Int) > 12 := by omega
    go_wp2
    go_ret
    exact ⟨rfl, B1.out⟩
  have h12z : ¬ (len : Int) > 12 := by omega
  have HA2 := Aside0.mk (Kd.C_below HA.out B1.out)
  have hl12 : l.length ≤ 12 := by omega
  have ca := chain_any l [] A none cap 0 w1 (by rw [hlen]; exact HA2.out) HWF.out (row_none _ _) hl12
  rw [hlen] at ca
  have CA := Aside0.mk ca
  have HLEN := Lib.hid hlen
  have HL12 := Lib.hid hl12
  clear ca HA hlen hl12
  go_wp2_with fail
  refine CA.out.mono ?_
  rintro e2 w3 ⟨v, rfl, hv, hb3⟩
  obtain ⟨A3, c3, rfl, hc3, hC3⟩ := Kd.R_reads hv
  have hl3 : (clM7 :: chainOf [] 0 l).length = len + 1 := by rw [List.length_cons, chainOf_len, HLEN.out]
  have LA := link_any (clM7 :: chainOf [] 0 l) A3 c3 w3 hC3 (by rw [hl3]; omega) (fun ⟨c, hc, x, hx, _⟩ => by
    rw [small_chain c hc] at hx
    exact absurd hx List.not_mem_nil)
  rw [link_chain HL12.out, hl3] at LA
  rw [hl3]
  have LA := Aside0.mk LA
  have HA3 := Aside0.mk (Kd.C_below HA2.out hb3)
  have B3 := Aside0.mk (bthen B1.out hb3)
  clear hv hC3 hc3 hb3 hl3 CA HA2
  go_wp2_with fail
  refine LA.out.mono ?_
  rintro e4 w4 ⟨pp, rfl, hp, _, hb4⟩
  obtain ⟨pb, rfl, hP⟩ := hp trivial
  have HP := Aside0.mk hP
  have HA4 := Aside0.mk (Kd.C_below HA3.out hb4)
  have B4 := Aside0.mk (bthen B3.out hb4)
  clear hp hP hb4 LA HA3
  go_wp2_with fail
  go_loopw [5, 6] (fun s5 s6 wr => ∃ kk : Nat, kk ≤ len ∧ s6 = .int .i64 kk ∧ s5 = .int .i64 (atC l kk) ∧ Aside0 (Below w4.heap.size w4 wr)) (fun _ s6 _ => len - (intOf s6).toNat)
  case atStart => exact ⟨0, Nat.zero_le _, rfl, rfl, ⟨Below.refl _ _⟩⟩
  case round =>
    obtain ⟨kk, hk, rfl, rfl, BW⟩ := hrel
    have hk0 : (0 : Int) ≤ (kk : Int) := by omega
    by_cases hlt : kk < len
    · have hltz : (kk : Int) < (len : Int) := by omega
      have hk14 : (kk : Int) + 1 ≤ 14 := by omega
      have hext : (ByteArray.mk #[65, 66, 67, 68, 69, 70, 71, 72, 73, 74, 75, 76, 77, 78]).extract kk (kk + 1) = letC kk := ext7 kk (by omega)
      have hfl : (ByteArray.mk #[102]) ++ letC kk = fldC kk := fld7 kk (by omega)
      have hsz : ¬ 9223372036854775807 < 1 + (letC kk).size := by show ¬ 9223372036854775807 < 1 + 1; decide
      obtain ⟨m, hm⟩ : ∃ m, len = m + 1 := ⟨len - 1, by omega⟩
      have hm1 : (len : Int) - 1 = (m : Int) := by omega
      have hm0 : (0 : Int) ≤ (m : Int) := by omega
      have hml : (m : Int) ≤ (len : Int) := by omega
      have hl14 : (len : Int) ≤ 14 := by omega
      have hext2 : (ByteArray.mk #[65, 66, 67, 68, 69, 70, 71, 72, 73, 74, 75, 76, 77, 78]).extract m len = letC m := by rw [hm]; exact ext7 m (by omega)
      obtain ⟨x, hx⟩ : ∃ x, l[kk]? = some x := ⟨_, List.getElem?_eq_getElem (by have := HLEN.out; omega)⟩
      obtain ⟨x0, x255⟩ := bounds_u8 (HWF.out x (List.mem_of_getElem? hx))
      obtain ⟨ad, hA, hcell⟩ := u8_at7 HA4.out hx
      subst hA
      have HC := Aside0.mk (fun W (hb : Below w4.heap.size w4 W) => pw_cell_below hb hcell)
      have hx3 : x.tmod 3 = x % 3 := Int.tmod_eq_emod_of_nonneg x0
      have hx30 : 0 ≤ x % 3 := Int.emod_nonneg _ (by decide)
      have hx33 : x % 3 < 3 := Int.emod_lt_of_pos _ (by decide)
      obtain ⟨k3, hk3⟩ : ∃ k3, x % 3 = k3 := ⟨_, rfl⟩
      rw [hk3] at hx3 hx30 hx33
      have hty : tyC l kk = ⟨k3 + 1, nil⟩ := by unfold tyC; rw [List.getD_eq_getElem?_getD, hx, Option.getD_some, hk3]
      have hll := HLEN.out
      have h8 : ∀ n, (clsOf (pgC [] l) n).fields.length ≤ 8 := all_cls (P := fun c => c.fields.length ≤ 8) HL12.out (by decide) (by decide) (by decide) (by decide) (fun j x b => by show 1 ≤ 8; decide)
      have hm8 : ∀ n, (clsOf (pgC [] l) n).methods.length ≤ 8 := all_cls (P := fun c => c.methods.length ≤ 8) HL12.out (by decide) (by decide) (by decide) (by decide) (fun j x b => by cases b; exact Nat.zero_le _; exact (by decide : 1 ≤ 8))
      have hns : ∀ n, ∀ m, m ∈ (clsOf (pgC [] l) n).methods → m.name.size ≤ 1000 := all_cls (P := fun c => ∀ m, m ∈ c.methods → m.name.size ≤ 1000) HL12.out (fun m h => absurd h List.not_mem_nil) (fun m h => absurd h List.not_mem_nil) (fun m h => absurd h List.not_mem_nil) (fun m h => by rw [show clM7.methods = [mtRet nmain] from rfl, List.mem_singleton] at h; subst h; decide) (fun j x b m h => by
        cases b
        · exact absurd h List.not_mem_nil
        · rw [show (clC7 j x true).methods = [mtRet ⟨#[109]⟩] from rfl, List.mem_singleton] at h; subst h; decide)
      have f1 := field_chain (h := []) HL12.out (k := kk) (i := kk) (by omega) (Nat.le_refl _)
      have f2 := field_chain (h := []) HL12.out (k := m) (i := kk) (by omega) (by omega)
      rw [hty] at f1 f2
      have FA := Aside0.mk (fun W (hb : Below w4.heap.size w4 W) => field_is HL12.out pb (letC kk) (fldC kk) W (HP.out.below hb) h8 f1)
      have FB := Aside0.mk (fun W (hb : Below w4.heap.size w4 W) => field_is HL12.out pb (letC m) (fldC kk) W (HP.out.below hb) h8 f2)
      have FC := Aside0.mk (fun W (hb : Below w4.heap.size w4 W) => field_is HL12.out pb nMain (fldC kk) W (HP.out.below hb) h8 (field_main (h := []) HL12.out (by omega)))
      have ly := fun W (hb : Below w4.heap.size w4 W) => layout_any pb (pgC [] l) (letC kk) W (HP.out.below hb) h8 hm8 hns (has_chain _ HL12.out _ (by omega))
      rw [slots_chain (h := []) HL12.out (by omega)] at ly
      have LY := Aside0.mk ly
      obtain ⟨a, ha⟩ : ∃ a, atC l kk = a := ⟨_, rfl⟩
      obtain ⟨a1, ha1⟩ : ∃ a1, atC l (kk + 1) = a1 := ⟨_, rfl⟩
      have hab := atC_b l kk
      have hst : a1 = a + words ⟨k3 + 1, nil⟩ := by rw [← ha1, atC, ha, hty]
      rw [ha] at FA FB hab ⊢
      rw [show (slC l (kk + 1), atC l (kk + 1)).2 = a1 from ha1] at LY
      have HA1 := Lib.hid ha1
      have HST := Lib.hid hst
      have heq := eqSl
      have HLT := Lib.hid hlt
      obtain ⟨ha0, ha2⟩ := hab
      have HM := Lib.hid hm
      clear ly f1 f2 h8 hm8 hns hty hx hk3 hst ha1 ha hll hcell hlt hm
      go_wp2_with fail
      refine (FA.out wr BW.out).mono ?_
      rintro e5 w5 ⟨rfl, hb5⟩
      have B5 := Aside0.mk (bthen BW.out hb5)
      have hb6 := fun o : Obj => bthen B5.out (balloc w5 o)
      obtain ⟨W6, hW6⟩ : ∃ W6, w5.alloc (.cells #[.string (letC kk), .string (fldC kk), .int .i64 (k3 + 1), .string nil, .bool false, .int .i64 a] 52) = W6 := ⟨_, rfl⟩
      have hg6 : W6.heap[w5.heap.size]? = some (.cells #[.string (letC kk), .string (fldC kk), .int .i64 (k3 + 1), .string nil, .bool false, .int .i64 a] 52 (0, 0)) := by rw [← hW6]; exact blk_new _ _
      have B6 := Aside0.mk (by rw [← hW6]; exact hb6 _ : Below w4.heap.size w4 W6)
      obtain ⟨g6, hg6'⟩ : ∃ g6, w5.heap.size = g6 := ⟨_, rfl⟩
      rw [hg6'] at hg6
      clear hb6 hb5
      go_wp2_with fail
      refine (FB.out W6 B6.out).mono ?_
      rintro e7 w7 ⟨rfl, hb7⟩
      obtain ⟨W8, hW8⟩ : ∃ W8, w7.alloc (.cells #[.string (letC kk), .string (fldC kk), .int .i64 (k3 + 1), .string nil, .bool false, .int .i64 a] 52) = W8 := ⟨_, rfl⟩
      have hb8 : Below w7.heap.size w7 W8 := by rw [← hW8]; exact balloc _ _
      have hg8 : W8.heap[w7.heap.size]? = some (.cells #[.string (letC kk), .string (fldC kk), .int .i64 (k3 + 1), .string nil, .bool false, .int .i64 a] 52 (0, 0)) := by rw [← hW8]; exact blk_new _ _
      have hg68 := blk_below hg6 (bthen hb7 hb8)
      have B8 := Aside0.mk (bthen B6.out (bthen hb7 hb8))
      have c0 := Bx.cell ⟨hg68⟩ (j := 0) rfl
      have c1 := Bx.cell ⟨hg68⟩ (j := 1) rfl
      have c2 := Bx.cell ⟨hg68⟩ (j := 2) rfl
      have c3' := Bx.cell ⟨hg68⟩ (j := 3) rfl
      have c4 := Bx.cell ⟨hg68⟩ (j := 4) rfl
      have c5 := Bx.cell ⟨hg68⟩ (j := 5) rfl
      obtain ⟨g8, hg8'⟩ : ∃ g8, w7.heap.size = g8 := ⟨_, rfl⟩
      rw [hg8'] at hg8
      have d0 := Bx.cell ⟨hg8⟩ (j := 0) rfl
      have d1 := Bx.cell ⟨hg8⟩ (j := 1) rfl
      have d2 := Bx.cell ⟨hg8⟩ (j := 2) rfl
      have d3 := Bx.cell ⟨hg8⟩ (j := 3) rfl
      have d4 := Bx.cell ⟨hg8⟩ (j := 4) rfl
      have d5 := Bx.cell ⟨hg8⟩ (j := 5) rfl
      have hcx := HC.out W8 B8.out
      clear hb7 hb8 hg6 hg8 hg68
      by_cases hk1 : k3 = 1
      · have e1 : (k3 + 1 == 2) = true := by rw [hk1]; rfl
        have HFIN : a1 = a + 1 + 1 := by rw [HST.out, hk1, show words ⟨1 + 1, nil⟩ = 2 from rfl]; omega
        clear hk1
        · have ea : a + 1 + 1 = a1 := HFIN.symm
          have FIN : Aside0 (a1 = a + 1 + 1) := ⟨HFIN⟩
          clear HFIN
          go_wp2_with fail
          refine (LY.out W8 B8.out).mono ?_
          rintro e9 w9 ⟨A1, n1, y1, A2, n2, y2, A5, n5, y5, rfl, hb9⟩
          obtain ⟨W10, hW10⟩ : ∃ W10, w9.alloc (.cells #[.string (letC kk), .slice A1 n1 y1, .slice A2 n2 y2, .int .i64 a1, .slice A5 n5 y5] 59) = W10 := ⟨_, rfl⟩
          have hb10 : Below w9.heap.size w9 W10 := by rw [← hW10]; exact balloc _ _
          have hg10 : W10.heap[w9.heap.size]? = some (.cells #[.string (letC kk), .slice A1 n1 y1, .slice A2 n2 y2, .int .i64 a1, .slice A5 n5 y5] 59 (0, 0)) := by rw [← hW10]; exact blk_new _ _
          have B10 := Aside0.mk (bthen B8.out (bthen hb9 hb10))
          have q3 := Bx.cell ⟨hg10⟩ (j := 3) rfl
          clear hb9 hb10 hg10 c0 c1 c2 c3' c4 c5 d0 d1 d2 d3 d4 d5 hcx
          go_wp2_with fail
          refine (FC.out W10 B10.out).mono ?_
          rintro e11 w11 ⟨rfl, hb11⟩
          have B11 := Aside0.mk (bthen B10.out hb11)
          have q3' := fun o : Obj => pw_cell_below (bthen hb11 (balloc w11 o)) q3
          clear hb11 q3
          go_wp2
          go_roundw
          case rel => exact ⟨kk + 1, HLT.out, by go_num, by rw [HA1.out], ⟨bthen B11.out (balloc _ _)⟩⟩
          case measure => have := HLT.out; simp [intOf]; omega
      · have e1 : (k3 + 1 == 2) = false := by rw [beq_eq_false_iff_ne]; omega
        have e2 : ¬ k3 + 1 = 2 := by omega
        have HFIN : a1 = a + 1 := by
          rw [HST.out]
          rcases (by omega : k3 = 0 ∨ k3 = 2) with h | h <;> rw [h] <;> rfl
        · have ea : a + 1 = a1 := HFIN.symm
          have FIN : Aside0 (a1 = a + 1) := ⟨HFIN⟩
          clear HFIN
          go_wp2_with fail
          refine (LY.out W8 B8.out).mono ?_
          rintro e9 w9 ⟨A1, n1, y1, A2, n2, y2, A5, n5, y5, rfl, hb9⟩
          obtain ⟨W10, hW10⟩ : ∃ W10, w9.alloc (.cells #[.string (letC kk), .slice A1 n1 y1, .slice A2 n2 y2, .int .i64 a1, .slice A5 n5 y5] 59) = W10 := ⟨_, rfl⟩
          have hb10 : Below w9.heap.size w9 W10 := by rw [← hW10]; exact balloc _ _
          have hg10 : W10.heap[w9.heap.size]? = some (.cells #[.string (letC kk), .slice A1 n1 y1, .slice A2 n2 y2, .int .i64 a1, .slice A5 n5 y5] 59 (0, 0)) := by rw [← hW10]; exact blk_new _ _
          have B10 := Aside0.mk (bthen B8.out (bthen hb9 hb10))
          have q3 := Bx.cell ⟨hg10⟩ (j := 3) rfl
          clear hb9 hb10 hg10 c0 c1 c2 c3' c4 c5 d0 d1 d2 d3 d4 d5 hcx
          go_wp2_with fail
          refine (FC.out W10 B10.out).mono ?_
          rintro e11 w11 ⟨rfl, hb11⟩
          have B11 := Aside0.mk (bthen B10.out hb11)
          have q3' := fun o : Obj => pw_cell_below (bthen hb11 (balloc w11 o)) q3
          clear hb11 q3
          go_wp2
          go_roundw
          case rel => exact ⟨kk + 1, HLT.out, by go_num, by rw [HA1.out], ⟨bthen B11.out (balloc _ _)⟩⟩
          case measure => have := HLT.out; simp [intOf]; omega
    · have hltz : ¬ (kk : Int) < (len : Int) := by omega
      have BN := Aside0.mk (bthen B4.out BW.out)
      clear hlt
      go_wp2
      go_ret
      exact ⟨rfl, BN.out⟩
end Go.Proofs.Ytpdjkclacbgneaa
