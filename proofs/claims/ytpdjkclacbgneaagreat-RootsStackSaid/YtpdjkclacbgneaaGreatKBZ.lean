/- locks' Method. -/
import Derived.Test.YtpdjkclacbgneaaGreatKA
import Derived.Test.YtpdjkclacbgneaaGreatVMet2
import Derived.Deep.LoopGhost
import Derived.Test.YtpdjkclacbgneaaGreatVAlZ
set_option linter.unusedVariables false
set_option linter.unusedSimpArgs false
namespace Go.Proofs.YtpdjkclacbgneaaGreat
open Go.RowKit Go.Shelf Go.Proofs.YtpdjkclacbgneaaGreatW.PrintWords Go.Proofs.YtpdjkclacbgneaaGreat.Pl

set_option maxHeartbeats 1000000 in
theorem kname_any (o : Mt) (cs : List Value) (g : Nat) (nm : ByteArray) (W : World) (ho : ∃ w, mtK.K w o cs) (hg : g < W.heap.size) (hc : W.cell? ⟨g, 0, none⟩ = some (.string nm)) :
    Calls Tryz.prog 37 #[.agg cs.toArray, .pointer (some ⟨g, 0, none⟩)] W fun e w' => e = .returned (.bool (decide (o.name = nm))) ∧ Below W.heap.size W w' := by
  obtain ⟨w, ho⟩ := ho
  obtain ⟨B0, d0, B1, d1, B2, d2, rfl, _, _, _, _⟩ := mtK_open ho
  clear ho
  generalize o.name = n
  by_cases h : n = nm
  · have e1 := str_eq h
    rw [decide_eq_true h]
    go_enter Tryz.func37, Tryz.ntmps37
    go_wp2
    go_ret
    exact ⟨rfl, balloc _ _⟩
  · have e1 := str_ne h
    rw [decide_eq_false h]
    go_enter Tryz.func37, Tryz.ntmps37
    go_wp2
    go_ret
    exact ⟨rfl, balloc _ _⟩
theorem kname_asks (l : List Mt) (n : Nat) (cs : Nat → List Value) (g : Nat) (nm : ByteArray) (W : World) (hk : ∀ j, j < n → ∃ w, mtK.K w (l.getD j default) (cs j)) (hg : g < W.heap.size) (hc : W.cell? ⟨g, 0, none⟩ = some (.string nm)) :
    Asks Tryz.prog 37 #[.pointer (some ⟨g, 0, none⟩)] (fun j => .agg (cs j).toArray) n (fun j => decide ((l.getD j default).name = nm)) W :=
  fun j hj W' hb => kname_any (l.getD j default) (cs j) g nm W' (hk j hj) (Nat.lt_of_lt_of_le hg hb.size) ((hb.cell (p := ⟨g, 0, none⟩) hg).trans hc)
theorem boolInfo : (Tryz.prog.info? BT).map (fun i => (i.zero, i.size, i.bytes)) = some (some (.bool false), 1, 1) := by kernel_rfl
theorem run_make_bool (n : Nat) (hn : n ≤ 100000) (w : World) : (Instr.makeSlice 50 (.int .i64 (n : Int)) (.int .i64 (n : Int))).run Tryz.prog w = .ok (.slice (some ⟨w.heap.size, 0, none⟩) n n) (w.alloc (.cells (madeCells #[.bool false] n) BT)) :=
  print_make_of 50 BT (.bool false) 1 Tryz.underlying50 boolInfo rfl (by decide) n (by omega) w
theorem made_bools (n : Nat) : madeCells #[.bool false] n = ((List.replicate n false).map Value.bool).toArray := by
  apply Array.toList_inj.1
  rw [toList_madeCells_one]
  simp
/-- A fresh walk. -/
theorem LkAt.new {wB W : World} {fb lb pb : Nat} {p : Pg} {c : Cl} {m : Mt} {L : List St} {ch : Bool} {m0 m1 m2 m3 m4 m5 m6 m7 : Value} (h : FlowAt wB W fb lb pb p c m L ch) (hm : mtK.K wB m [m0, m1, m2, m3, m4, m5, m6, m7]) :
    LkAt wB ((W.alloc (.cells (madeCells #[.bool false] L.length) BT)).alloc (.cells (lkCs lb W.heap.size L.length (.slice none 0 0) m0 m1 m2 m3 m4 m5 m6 m7) KT)) (W.heap.size + 1) lb W.heap.size (.slice none 0 0) m L ⟨List.replicate L.length [], List.replicate L.length false, []⟩ := by
  have hb1 := balloc W (.cells (madeCells #[.bool false] L.length) BT)
  have hb2 := bthen hb1 (balloc _ (.cells (lkCs lb W.heap.size L.length (.slice none 0 0) m0 m1 m2 m3 m4 m5 m6 m7) KT))
  have hs := h.bel.size
  obtain ⟨cs, h8, h9, h10⟩ := h.lcell
  refine ⟨h.bel.trans (hb2.mono hs), by omega, h.lle, hs, by simp, by simp, ⟨m0, m1, m2, m3, m4, m5, m6, m7, blk_second W _ _, hm⟩, ⟨cs, blk_below h8 hb2, h9, fun i st ls hi hl => ?_⟩, ?_, own_nil _ _ _ _⟩
  · obtain ⟨Lv, Sv, a1, a2, a3, a4, a5, a6⟩ := (h10 i st hi).out
    rw [List.getElem?_replicate] at hl
    split at hl
    · cases hl
      exact ⟨Lv, Sv, .slice none 0 0, a1, a2, a3, a4, a5.below hb2, a6.below hb2, own_nil _ _ _ _, ne_nil _⟩
    · cases hl
  · have := blk_alloc (blk_new W (.cells (madeCells #[.bool false] L.length) BT)) (.cells (lkCs lb W.heap.size L.length (.slice none 0 0) m0 m1 m2 m3 m4 m5 m6 m7) KT)
    rw [this, made_bools]
/-- What stays true of a walk. -/
structure WkOk (n : Nat) (s : Wk) : Prop where
  nl : s.locks.length = n
  nm : s.met.length = n
  six : ∀ i, (s.locks.getD i []).length ≤ 6
  td : ∀ x, x ∈ s.todo → 0 ≤ x ∧ x < n
  cnt : s.todo.length + s.met.count false ≤ n
theorem getD_set_len {l : List (List Int)} {i j : Nat} {x : List Int} (h : ∀ i, (l.getD i []).length ≤ 6) (hx : x.length ≤ 6) : ((l.set i x).getD j []).length ≤ 6 := by
  rw [List.getD_eq_getElem?_getD, List.getElem?_set]
  split
  · split
    · exact hx
    · simp
  · rw [← List.getD_eq_getElem?_getD]
    exact h j
theorem lcomes_ok {n : Nat} {s : Wk} (h : WkOk n s) {pc : Nat} (hpc : pc < n) {ls : List Int} (hl : ls.length ≤ 6) : WkOk n (lcomes s pc ls).2 := by
  unfold lcomes
  split
  · exact h
  · rename_i hm
    obtain ⟨a1, a2, a3, a4, a5⟩ := h
    have hpm : pc < s.met.length := by omega
    refine ⟨by simp [a1], by simp [a2], fun i => getD_set_len a3 hl, fun x hx => ?_, ?_⟩
    · rcases List.mem_append.1 hx with hx | hx
      · exact a4 x hx
      · rw [List.mem_singleton] at hx
        subst hx
        omega
    · have hmf : s.met[pc] = false := by
        rw [List.getD_eq_getElem?_getD, List.getElem?_eq_getElem hpm] at hm
        simpa using hm
      have hc : 0 < s.met.count false := List.count_pos_iff.2 (by rw [← hmf]; exact List.getElem_mem hpm)
      show (s.todo ++ [(pc : Int)]).length + (s.met.set pc true).count false ≤ n
      rw [List.length_append, List.count_set hpm, hmf]
      simp only [List.length_cons, List.length_nil]
      have h1 : (if (false == false) = true then 1 else 0) = 1 := rfl
      have h2 : (if (true == false) = true then 1 else 0) = 0 := rfl
      rw [h1, h2]
      omega
theorem lgoes_ok {c : Cl} {m : Mt} {k : Nat} {s : Wk} (hM : MtOk c m k) (h : WkOk m.code.length s) {pc : Nat} (hpc : pc < m.code.length) : WkOk m.code.length (lgoes m s pc).2 := by
  obtain ⟨i, hi⟩ : ∃ i, m.code[pc]? = some i := ⟨_, List.getElem?_eq_getElem hpc⟩
  obtain ⟨i1, i2, i3, i4⟩ := hM.ins pc i hi
  rw [lgoes_eq m s pc i hi _ rfl]
  have hb := behind_len (i := i) (h.six pc)
  split
  · exact h
  · have ha : WkOk m.code.length (if jumps i.op = true then lcomes s i.a.toNat (behind i (s.locks.getD pc [])).1 else (0, s)).2 := by
      split
      · rename_i hj
        have := i3 hj
        exact lcomes_ok h (by omega) hb
      · exact h
    obtain ⟨a, hae⟩ : ∃ a, (if jumps i.op = true then lcomes s i.a.toNat (behind i (s.locks.getD pc [])).1 else (0, s)) = a := ⟨_, rfl⟩
    rw [hae] at ha
    simp only [hae]
    by_cases h1 : a.1 = 0
    · rw [if_neg (by rw [h1]; decide)]
      by_cases h2 : stops i.op = true
      · rw [if_pos h2]
        exact ha
      · rw [if_neg h2]
        exact lcomes_ok ha (i4 (by simpa using h2)) hb
    · rw [if_pos h1]
      exact ha
theorem WkOk.pop {n : Nat} {s : Wk} (h : WkOk n s) (k : Nat) : WkOk n ⟨s.locks, s.met, s.todo.take k⟩ := by
  obtain ⟨a1, a2, a3, a4, a5⟩ := h
  refine ⟨a1, a2, a3, fun x hx => a4 x (List.mem_of_mem_take hx), ?_⟩
  show (s.todo.take k).length + s.met.count false ≤ n
  rw [List.length_take]
  have : min k s.todo.length ≤ s.todo.length := Nat.min_le_right _ _
  omega
theorem WkOk.start (n : Nat) : WkOk n ⟨List.replicate n [], List.replicate n false, []⟩ := by
  refine ⟨by simp, by simp, fun i => ?_, fun x hx => absurd hx List.not_mem_nil, by simp⟩
  rw [List.getD_eq_getElem?_getD, List.getElem?_replicate]
  split <;> simp
theorem lruns_step {m : Mt} {k : Nat} {s : Wk} {e : Int} {Ls : List (List Int)} (h : lruns m k s = some (e, Ls)) : (s.todo.length = 0 → e = 0 ∧ Ls = s.locks) ∧ (s.todo.length ≠ 0 → ∃ k', k' < k ∧ ∃ a, lgoes m ⟨s.locks, s.met, s.todo.take (s.todo.length - 1)⟩ (s.todo.getD (s.todo.length - 1) 0).toNat = a ∧ (if a.1 ≠ 0 then some (a.1, []) else lruns m k' a.2) = some (e, Ls)) := by
  cases k with
  | zero => simp [lruns] at h
  | succ k =>
    rw [lruns] at h
    refine ⟨fun h0 => ?_, fun h0 => ?_⟩
    · rw [if_pos h0] at h
      simp only [Option.some.injEq, Prod.mk.injEq] at h
      exact ⟨h.1.symm, h.2.symm⟩
    · rw [if_neg h0] at h
      exact ⟨k, Nat.lt_succ_self k, _, rfl, h⟩
/-- What Method hands back: the states with their locks. -/
def LRes (wB w : World) (v : Value) (L : List St) (Ls : List (List Int)) : Prop :=
  ∃ B lb cs tv, wB.heap.size ≤ B ∧ v = .slice (some ⟨lb, 0, none⟩) L.length L.length ∧ w.heap[lb]? = some (.cells cs ST (0, 0)) ∧ cs.size = L.length * 4 ∧ Ls.length = L.length ∧ ∀ i st ls, L[i]? = some st → Ls[i]? = some ls → StL B w tv cs i st ls
theorem LRes.below {wB w w1 : World} {v : Value} {L : List St} {Ls : List (List Int)} (h : LRes wB w v L Ls) (hb : Below w.heap.size w w1) : LRes wB w1 v L Ls := by
  obtain ⟨B, lb, cs, tv, h1, h2, h3, h4, h5, h6⟩ := h
  exact ⟨B, lb, cs, tv, h1, h2, blk_below h3 hb, h4, h5, fun i st ls a b => (h6 i st ls a b).below hb⟩


/-- What Method leaves. -/
def LMethPost (wB : World) (L : List St) (e : Int) (Ls : List (List Int)) (x : Ending) (w' : World) : Prop :=
  ∃ v, x = .returned (.tuple #[v, .int .i64 e]) ∧ Below wB.heap.size wB w' ∧ (e = 0 → LRes wB w' v L Ls) ∧ (e ≠ 0 → v = .slice none 0 0)
/-- At the label of Method: so many rounds are to come at most. -/
def PLk (wB : World) (c : Cl) (m : Mt) (n : Nat) (L : List St) (e : Int) (Ls : List (List Int)) (k : Nat) (a : Act) (w : World) : Prop :=
  ∃ (kb lb eb : Nat) (tv : Value) (s : Wk) (u0 u1 u2 u3 u4 u5 u6 u7 u8 u9 u10 u11 u12 u14 u15 u16 u17 u18 u19 u20 u21 u22 u23 u24 u25 u26 u27 u28 u29 u30 u31 u32 u33 u34 u35 u36 u37 u38 u39 u40 u41 u42 u43 u44 u45 u46 u47 u48 u49 u50 u51 u52 u53 u54 u55 u56 u57 u58 u59 u60 u61 u62 u63 u64 u65 u66 u67 u68 u69 u70 u71 u72 u73 u74 u75 u76 u77 u78 u79 u80 u81 u82 u83 u84 u85 u86 u87 u88 u89 u90 : Value), a = { tmps := #[u0, u1, u2, u3, u4, u5, u6, u7, u8, u9, u10, u11, u12, .pointer (some ⟨kb, 0, none⟩), u14, u15, u16, u17, u18, u19, u20, u21, u22, u23, u24, u25, u26, u27, u28, u29, u30, u31, u32, u33, u34, u35, u36, u37, u38, u39, u40, u41, u42, u43, u44, u45, u46, u47, u48, u49, u50, u51, u52, u53, u54, u55, u56, u57, u58, u59, u60, u61, u62, u63, u64, u65, u66, u67, u68, u69, u70, u71, u72, u73, u74, u75, u76, u77, u78, u79, u80, u81, u82, u83, u84, u85, u86, u87, u88, u89, u90], defers := [] } ∧ Aside0 (LkAt wB w kb lb eb tv m L s) ∧ Aside0 (WkOk m.code.length s) ∧ Aside0 (lruns m k s = some (e, Ls))
theorem cell_todo {B : Nat} {w : World} {A : Option Addr} {c : Nat} {l : List Int} {n : Nat} (h : OwnI B w (.slice A l.length c) l) (hn : l.length = n + 1) : ∃ ad, A = some ad ∧ w.cell? (ad.add n) = some (.int .i64 (l.getD n 0)) ∧ (l.length : Int) ≤ 9223372036854775807 ∧ l.length ≤ c := by
  obtain ⟨A', c', hv, hc, hC⟩ := h.reads
  cases hv
  have CC := cells_int hC
  obtain ⟨ad, rfl, _⟩ := CC.2 (by omega)
  exact ⟨ad, rfl, CC.one (j := n) (by omega) rfl, by have := CC.1; omega, hc⟩
set_option maxRecDepth 100000 in
set_option maxHeartbeats 4000000 in
theorem lmethod_any (wB : World) (pb : Nat) (p : Pg) (cls name : Nm) (H : ProgIs wB pb p) (m : Mt) (hm : (clsOf p cls).methods.find? (fun m => decide (m.name = name)) = some m) (n : Nat) (hok : MtOk (clsOf p cls) m n) (hn : m.locals = n) (hp : m.params.length < n) (hcl : m.code.length ≤ 100000)
    (k : Nat) (e0 : Int) (L : List St) (hres : passes p (clsOf p cls) m k (vstart p cls m) = some (e0, L)) (hlen : e0 = 0 → L.length = m.code.length) (e : Int) (Ls : List (List Int)) (hz : e0 ≠ 0 → e = e0) (k2 : Nat) (hrun : e0 = 0 → lruns m k2 (lstart m.code.length) = some (e, Ls)) :
    Calls Tryz.prog 18 #[.pointer (some ⟨pb, 0, none⟩), .string cls, .string name] wB (LMethPost wB L e Ls) := by
  obtain ⟨kk, hk1, hk2, hk3, hk4⟩ := find_idx _ m hm
  have HIX := Lib.hid (idxB_hit hk1 hk3 hk4)
  obtain ⟨w0, hw0⟩ : ∃ w0, wB.alloc (.cells #[.string name] 9) = w0 := ⟨_, rfl⟩
  have hb0 : Below wB.heap.size wB w0 := by rw [← hw0]; exact balloc _ _
  have hg0 : w0.heap[wB.heap.size]? = some (.cells #[.string name] 9 (0, 0)) := by rw [← hw0]; exact blk_new _ _
  have VM := Aside0.mk (vmethod_any w0 pb p cls name (H.below hb0) m hm n hok hn hp hcl k e0 L hres)
  have HH := Aside0.mk (H.below hb0)
  have HO := Aside0.mk hok
  have HN := Lib.hid hn
  have HP := Lib.hid hp
  have HK2 := Lib.hid hk2
  have HLEN := Aside0.mk hlen
  have HZ := Aside0.mk hz
  have HRUN := Aside0.mk hrun
  have HCL := Lib.hid hcl
  have HB0 := Aside0.mk hb0
  have HG0 := Aside0.mk hg0
  have eg := Aside0.mk (enters_of Tryz.func37 (by kernel_rfl) rfl)
  have x0 := Bx.cell ⟨hg0⟩ (j := 0) rfl
  clear hm hk3 hk4 H hok hres hn hp hk2 hlen hz hrun hcl hb0 hg0
  go_enter Tryz.func18, Tryz.ntmps18
  go_wp2_with fail
  refine wp_scope_ghost 0 (PLk w0 (clsOf p cls) m n L e Ls) rfl ?_ ?_
  · intro gk a' w' hJ
    obtain ⟨kb, lb, eb, tv, s, u0, u1, u2, u3, u4, u5, u6, u7, u8, u9, u10, u11, u12, u14, u15, u16, u17, u18, u19, u20, u21, u22, u23, u24, u25, u26, u27, u28, u29, u30, u31, u32, u33, u34, u35, u36, u37, u38, u39, u40, u41, u42, u43, u44, u45, u46, u47, u48, u49, u50, u51, u52, u53, u54, u55, u56, u57, u58, u59, u60, u61, u62, u63, u64, u65, u66, u67, u68, u69, u70, u71, u72, u73, u74, u75, u76, u77, u78, u79, u80, u81, u82, u83, u84, u85, u86, u87, u88, u89, u90, rfl, HL, HW, HR⟩ := hJ
    obtain ⟨k8, k9, k10, kf⟩ := HL.out.reads
    obtain ⟨A, c, rfl⟩ := HL.out.todo.slice
    obtain ⟨hs0, hs1⟩ := lruns_step HR.out
    have kf10 := kf 10
    clear kf VM HIX HH HLEN HZ HRUN HK2 eg hk1 hw0 x0 HG0
    by_cases h0 : s.todo.length = 0
    · have h0b : ((s.todo.length : Int) == 0) = true := by rw [h0]; rfl
      have h0z : (s.todo.length : Int) = 0 := by rw [h0]; rfl
      obtain ⟨rfl, rfl⟩ := hs0 h0
      clear hs0 hs1 h0
      go_wp2
      go_ret2
      obtain ⟨cs, h7, h8, h9⟩ := HL.out.lcell
      exact ⟨_, rfl, HB0.out.trans (HL.out.bel.mono HB0.out.size), fun _ => ⟨w0.heap.size, lb, cs, _, HB0.out.size, rfl, h7, h8, HL.out.nl, h9⟩, fun h => absurd rfl h⟩
    · obtain ⟨gk', hgk, a, ha, hif⟩ := hs1 h0
      obtain ⟨q, hq⟩ : ∃ q, s.todo.length = q + 1 := ⟨s.todo.length - 1, by omega⟩
      have h0b : ((s.todo.length : Int) == 0) = false := by rw [beq_eq_false_iff_ne]; omega
      have h0z : ¬ (s.todo.length : Int) = 0 := by omega
      obtain ⟨ad, rfl, l0, hmax, hcap⟩ := cell_todo HL.out.todo hq
      obtain ⟨hx0, hx1⟩ := HW.out.td (s.todo.getD q 0) (by rw [List.getD_eq_getElem?_getD, List.getElem?_eq_getElem (by omega)]; exact List.getElem_mem _)
      obtain ⟨pc, hpc⟩ := Int.eq_ofNat_of_zero_le hx0
      have hqm : (s.todo.length : Int) - 1 = (q : Int) := by omega
      have hqe : s.todo.length - 1 = q := by omega
      rw [hqe, hpc, Int.toNat_natCast] at ha
      rw [hpc] at l0 hx1
      have HLL : L.length = m.code.length := by have := HL.out.nl; have := HW.out.nl; omega
      have HLL := Lib.hid HLL
      have HA := Lib.hid ha
      have HIF := Aside0.mk hif
      have HGK := Lib.hid hgk
      have HQ := Lib.hid hq
      have HX1 := Lib.hid hx1
      have hq0 : (0 : Int) ≤ (q : Int) := by omega
      have hqc : (q : Int) ≤ (c : Int) := by omega
      have hqn : (q : Int) < (s.todo.length : Int) := by omega
      have HCAP := Lib.hid hcap
      clear hs0 hs1 h0 hx0 hx1 hpc ha hif hgk hq hqe hcap
      go_wp2_with fail
      go_quiet (fail)
      go_wp2_with fail
      have hd5 := pw_below_drewN (Below.refl w'.heap.size w') nq
      obtain ⟨W5, hW5⟩ : ∃ W5, w'.drewN nq = W5 := ⟨_, rfl⟩
      rw [hW5] at hd5 ⊢
      have H5 := HL.out.below hd5
      obtain ⟨m8, m9, m10, mf⟩ := (H5.below (below_drew (Below.refl W5.heap.size W5))).reads
      have mf10 := mf 10
      have hcut := H5.todo.cut (m := q) rfl (by have := HQ.out; omega)
      obtain ⟨H6, _, _⟩ := H5.swap (tv1 := .slice (some ad) q c) (td := s.todo.take q) (grown_of_below (Below.refl _ _) _) hcut (.inl rfl)
      have H6 := H6.below (below_drew (Below.refl _ _))
      obtain ⟨W6, hW6⟩ : ∃ W6, (W5.setCell ⟨kb, 10, none⟩ (.slice (some ad) q c)).drew = W6 := ⟨_, rfl⟩
      rw [hW6] at H6
      have GA := Aside0.mk (lgoes_any (s := ⟨s.locks, s.met, s.todo.take q⟩) H6 HO.out HLL.out (by have := HLL.out; have := HCL.out; omega) HW.out.six (by
        have h1 := HW.out.cnt
        have h2 := HCL.out
        have h3 := HQ.out
        show (s.todo.take q).length ≤ 800000
        rw [List.length_take]
        omega) pc (by have := HLL.out; have := HX1.out; omega))
      have GO := Aside0.mk (lgoes_ok HO.out (HW.out.pop q) (pc := pc) (by have := HX1.out; omega))
      rw [HA.out] at GA GO
      clear hcut H6 H5
      have hq1 : (q : Int) ≤ 9223372036854775807 := by omega
      go_region
      all_goals
        clear hW6 m8 m9 m10 mf mf10 hd5 hW5 k8 k9 k10 kf10 l0
        go_wp2_with fail
        refine GA.out.mono ?_
        rintro e3 w7 ⟨rfl, tv7, h7, _, _⟩
        have H7 := Aside0.mk h7
        have hif := HIF.out
        clear h7 GA
        by_cases hae : a.1 = 0
        · have hae1 : (a.1 != 0) = false := by rw [hae]; rfl
          rw [if_neg (by rw [hae]; decide)] at hif
          have HIF2 := Aside0.mk hif
          clear hif hae
          go_wp2_with fail
          go_step3
          exact ⟨rfl, gk', HGK.out, kb, lb, eb, tv7, a.2, _, _, _, _, _, _, _, _, _, _, _, _, _, _, _, _, _, _, _, _, _, _, _, _, _, _, _, _, _, _, _, _, _, _, _, _, _, _, _, _, _, _, _, _, _, _, _, _, _, _, _, _, _, _, _, _, _, _, _, _, _, _, _, _, _, _, _, _, _, _, _, _, _, _, _, _, _, _, _, _, _, _, _, _, _, _, _, _, _, _, rfl, H7, GO, HIF2⟩
        · have hae1 : (a.1 != 0) = true := by rw [bne_iff_ne]; exact hae
          rw [if_pos hae] at hif
          simp only [Option.some.injEq, Prod.mk.injEq] at hif
          have HE := Lib.hid hif.1
          clear hif hae
          go_wp2
          go_ret2
          refine ⟨_, by rw [← HE.out]; rfl, HB0.out.trans (H7.out.bel.mono HB0.out.size), fun he => ?_, fun _ => rfl⟩
          rw [bne_iff_ne] at hae1
          exact absurd (HE.out.trans he) hae1
  · intro hp
    have HP2 := Aside0.mk hp
    clear hp
    go_wp2_with fail
    refine VM.out.mono ?_
    rintro x w1 ⟨v, rfl, hb1, hy0, hy1⟩
    by_cases he0 : e0 = 0
    · obtain ⟨fb, lb, ch, rfl, hF⟩ := hy0 he0
      have he1 : (e0 != 0) = false := by rw [he0]; rfl
      have HF := Aside0.mk hF
      have HB1 := Aside0.mk hb1
      have HE0 := Lib.hid he0
      have HL1 : Hid (L.length = m.code.length) := Lib.hid (HLEN.out he0)
      have CA := Aside0.mk (class_at pb p cls w0 w1 HH.out hb1)
      clear hy0 hy1 hF he0 hb1
      go_wp2_with fail
      refine CA.out.mono ?_
      rintro e2 w2 ⟨cs, rfl, hcl, hb2⟩
      have HC := Aside0.mk hcl
      obtain ⟨A0, c0, A1, c1, A2, c2, rfl, ⟨k0, k1, k2'⟩, r0, r1, r2⟩ := clK_open hcl
      obtain ⟨mc, CM0, KM⟩ := cells_of default r2
      have CM1 := (CM0.below HB1.out).below hb2
      obtain ⟨w3, hw3⟩ : ∃ w3, w2.alloc (.cells #[.string (clsOf p cls).name, .string (clsOf p cls).super, .slice A0 (clsOf p cls).pool.length c0, .slice A1 (clsOf p cls).fields.length c1, .slice A2 (clsOf p cls).methods.length c2] 45) = w3 := ⟨_, rfl⟩
      have hb3 : Below w2.heap.size w2 w3 := by rw [← hw3]; exact balloc _ _
      have hc3 : w3.heap[w2.heap.size]? = some (.cells #[.string (clsOf p cls).name, .string (clsOf p cls).super, .slice A0 (clsOf p cls).pool.length c0, .slice A1 (clsOf p cls).fields.length c1, .slice A2 (clsOf p cls).methods.length c2] 45 (0, 0)) := by rw [← hw3]; exact blk_new _ _
      have CM2 := CM1.below hb3
      have hg3 := blk_below (blk_below (blk_below HG0.out HB1.out) hb2) hb3
      have IX := Aside0.mk (idx_Mt 37 _ eg.out A2 _ c2 mc _ w3 CM2 (kname_asks (clsOf p cls).methods _ mc wB.heap.size name w3 (fun j hj => ⟨_, KM j hj⟩) (blk_lt hg3) (Bx.cell ⟨hg3⟩ (j := 0) rfl)))
      have CM := Aside0.mk CM2
      have HC3 := Aside0.mk hc3
      have HF3 := Aside0.mk ((HF.out.below hb2).below hb3)
      have HKM := Aside0.mk (KM kk hk1)
      clear KM CM0 CM1 CM2 hcl r0 r1 r2 hg3 hb2 hb3 x0
      obtain ⟨_, _, _, _, cc3⟩ := Bx.five ⟨hc3⟩
      have hk0 : ¬ ((kk : Int) < 0) := by omega
      have hk00 : (0 : Int) ≤ (kk : Int) := by omega
      have hkl : (kk : Int) < ((clsOf p cls).methods.length : Int) := by omega
      go_wp2_with fail
      refine IX.out.mono ?_
      rintro e9 w4 ⟨rfl, hb4⟩
      rw [HIX.out]
      have hc4 := blk_drew (blk_below HC3.out hb4)
      have CM4 : Cells w4.drew A2 (clsOf p cls).methods.length 8 mc := (CM.out.below hb4).below (below_drew (Below.refl _ _))
      have HF4 := Aside0.mk (HF3.out.below hb4)
      clear CM hc3 cc3 hw3
      obtain ⟨ad, rfl, _⟩ := CM4.2 (by omega)
      have hm0 := HKM.out
      rw [HK2.out] at hm0
      have HM0 := Aside0.mk hm0
      obtain ⟨B0, d0, B1, d1, B2, d2, hmc, _⟩ := mtK_open hm0
      have hmk := run_make_bool L.length (by have := HL1.out; have := HCL.out; omega)
      have lift : ∀ {a : Addr} {u : Value}, w4.drew.cell? a = some u → (w4.alloc (.cells (madeCells #[.bool false] L.length) BT)).drew.cell? a = some u := fun h => pw_cell_below (w := w4) (balloc _ _) h
      have z0 := CM4.at0 hk1 (v := .string m.name) (by rw [hmc]; rfl)
      have z1 := CM4.at_ (i := 1) hk1 (by decide) (v := .slice B0 m.params.length d0) (by rw [hmc]; rfl)
      have z2 := CM4.at_ (i := 2) hk1 (by decide) (v := .int .i64 m.ret.kind) (by rw [hmc]; rfl)
      have z3 := CM4.at_ (i := 3) hk1 (by decide) (v := .string m.ret.cls) (by rw [hmc]; rfl)
      have z4 := CM4.at_ (i := 4) hk1 (by decide) (v := .int .i64 m.locals) (by rw [hmc]; rfl)
      have z5 := CM4.at_ (i := 5) hk1 (by decide) (v := .int .i64 m.stack) (by rw [hmc]; rfl)
      have z6 := CM4.at_ (i := 6) hk1 (by decide) (v := .slice B1 m.code.length d1) (by rw [hmc]; rfl)
      have z7 := CM4.at_ (i := 7) hk1 (by decide) (v := .slice B2 m.handlers.length d2) (by rw [hmc]; rfl)
      have y0 := lift z0
      have y1 := lift z1
      have y2 := lift z2
      have y3 := lift z3
      have y4 := lift z4
      have y5 := lift z5
      have y6 := lift z6
      have y7 := lift z7
      have z9 : w4.drew.cell? ⟨w2.heap.size, 4, none⟩ = some (.slice (some ad) (clsOf p cls).methods.length c2) := Bx.cell ⟨hc4⟩ (j := 4) rfl
      have y9 := lift z9
      have hlen0 : (0 : Int) ≤ (L.length : Int) := by omega
      clear lift hc4 CM4 hm0
      rw [hmc] at HM0
      clear hmc
      go_wp2_with fail
      go_region
      all_goals
        have HN0 := (LkAt.new HF4.out HM0.out).below (below_drew (Below.refl _ _))
        have HW0 := WkOk.start L.length
        unfold lkCs at HN0
        obtain ⟨W5, hW5⟩ : ∃ W5, ((w4.alloc (.cells (madeCells #[.bool false] L.length) BT)).alloc (.cells #[.string m.name, .slice B0 m.params.length d0, .int .i64 m.ret.kind, .string m.ret.cls, .int .i64 m.locals, .int .i64 m.stack, .slice B1 m.code.length d1, .slice B2 m.handlers.length d2, .slice (some ⟨lb, 0, none⟩) L.length L.length, .slice (some ⟨w4.heap.size, 0, none⟩) L.length L.length, .slice none 0 0] KT)).drew = W5 := ⟨_, rfl⟩
        rw [hW5] at HN0
        have CO := Aside0.mk (comes_any HN0 0 (by have := HL1.out; have := HO.out.one; omega) (.slice none 0 0) [] (OwnI.nil _ _) (by decide) (by show ([] : List Int).length ≤ 900000; decide) (by have := HL1.out; have := HCL.out; omega))
        have HOK := Aside0.mk (lcomes_ok HW0 (pc := 0) (ls := []) (by have := HL1.out; have := HO.out.one; omega) (by decide))
        clear HN0 HW0 z0 z1 z2 z3 z4 z5 z6 z7 y0 y1 y2 y3 y4 y5 y6 y7 z9 y9 hmk
        rw [hW5]
        clear hW5
        go_wp2_with fail
        refine CO.out.mono ?_
        rintro e6 w6 ⟨rfl, tv6, h6, _, _⟩
        have H6 := Aside0.mk h6
        have HR6 : Aside0 (lruns m k2 (lcomes ⟨List.replicate L.length [], List.replicate L.length false, []⟩ 0 []).2 = some (e, Ls)) := ⟨by
          have := HRUN.out HE0.out
          unfold lstart at this
          rw [HL1.out]
          exact this⟩
        rw [HL1.out] at HOK
        clear h6 CO
        go_wp2_with fail
        go_step3
        simp only [Exit.then]
        have hp := HP2.out
        refine (by assumption : ∀ (a : Act) (w : World), _ → _) _ _ (hp k2 _ _ ?_)
        exact ⟨_, lb, _, tv6, _, _, _, _, _, _, _, _, _, _, _, _, _, _, _, _, _, _, _, _, _, _, _, _, _, _, _, _, _, _, _, _, _, _, _, _, _, _, _, _, _, _, _, _, _, _, _, _, _, _, _, _, _, _, _, _, _, _, _, _, _, _, _, _, _, _, _, _, _, _, _, _, _, _, _, _, _, _, _, _, _, _, _, _, _, _, _, _, _, _, _, rfl, H6, by rw [HL1.out]; exact HOK, HR6⟩
    · have he1 : (e0 != 0) = true := by rw [bne_iff_ne]; exact he0
      have hv := hy1 he0
      subst hv
      have HBB := Aside0.mk (bthen HB0.out hb1)
      have HEZ := Lib.hid (HZ.out he0)
      clear hy0 hy1 hb1
      go_wp2
      go_ret2
      refine ⟨_, by rw [HEZ.out]; rfl, HBB.out, fun he => ?_, fun _ => rfl⟩
      exact absurd (HEZ.out.symm.trans he) he0


theorem joins_lenR (p : Pg) (most : Int) (l : List St) (ch : Bool) (pc : Nat) (s : St) : (joins p most l ch pc s).l.length = l.length := joins_len p most l ch pc s
theorem pass_len (p : Pg) (c : Cl) (m : Mt) : ∀ (n pc : Nat) (l : List St) (ch : Bool), (pass p c m n pc l ch).l.length = l.length
  | 0, _, _, _ => rfl
  | n + 1, pc, l, ch => by
    rw [pass]
    split
    · exact pass_len p c m n (pc + 1) l ch
    · simp only
      split
      · exact goes_len p c m l ch pc
      · rw [pass_len p c m n, goes_len p c m l ch pc]
theorem passes_len {p : Pg} {c : Cl} {m : Mt} : ∀ (n : Nat) (l : List St) (L : List St), passes p c m n l = some (0, L) → L.length = l.length
  | 0, l, L, h => by simp [passes] at h
  | n + 1, l, L, h => by
    rw [passes] at h
    split at h
    · rename_i he
      simp only [Option.some.injEq, Prod.mk.injEq] at h
      exact absurd h.1 he
    · split at h
      · rw [passes_len n _ L h, pass_len]
      · simp only [Option.some.injEq, Prod.mk.injEq, true_and] at h
        rw [← h, pass_len]
theorem lmethod_calls {wB : World} {pb : Nat} {p : Pg} (cls name : Nm) (H : ProgIs wB pb p) (HA : AllOk p) {m : Mt} (hm : (clsOf p cls).methods.find? (fun m => decide (m.name = name)) = some m) {k : Nat} {a : Int × List (List Int)} (hv : lmethod p k cls name = some a) :
    ∃ L, (a.1 = 0 → vmethod p k cls name = some (0, L) ∧ L.length = m.code.length) ∧ Calls Tryz.prog 18 #[.pointer (some ⟨pb, 0, none⟩), .string cls, .string name] wB (LMethPost wB L a.1 a.2) := by
  obtain ⟨n, h1, h2, h3, h4⟩ := HA cls name m hm
  unfold lmethod at hv
  split at hv
  · cases hv
  · rename_i b hb
    have hres : passes p (clsOf p cls) m k (vstart p cls m) = some (b.1, b.2) := by
      unfold vmethod at hb
      rw [hm] at hb
      exact hb
    have hlen : b.1 = 0 → b.2.length = m.code.length := fun h0 => by
      rw [h0] at hres
      rw [passes_len k _ _ hres, vstart, joins_len, List.length_replicate]
    rw [hm] at hv
    by_cases hb0 : b.1 = 0
    · rw [if_neg (by rw [hb0]; decide)] at hv
      exact ⟨b.2, fun _ => ⟨by rw [hb, ← hb0], hlen hb0⟩, lmethod_any wB pb p cls name H m hm n h1 h2 h3 h4 k b.1 b.2 hres hlen a.1 a.2 (fun h => absurd hb0 h) k (fun _ => hv)⟩
    · rw [if_pos hb0] at hv
      simp only [Option.some.injEq] at hv
      have ha : a.1 = b.1 := by rw [← hv]
      exact ⟨b.2, fun h0 => absurd (ha.symm.trans h0) hb0, lmethod_any wB pb p cls name H m hm n h1 h2 h3 h4 k b.1 b.2 hres hlen a.1 a.2 (fun _ => ha) k (fun h => absurd h hb0)⟩
end Go.Proofs.YtpdjkclacbgneaaGreat
