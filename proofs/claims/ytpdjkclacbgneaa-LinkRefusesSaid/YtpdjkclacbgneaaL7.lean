/- link's Layout, Number, Name; loomlaw7: known, chain, LinkCalls. -/
import Derived.Test.YtpdjkclacbgneaaR2
import Derived.Test.YtpdjkclacbgneaaIter
import Derived.Maps.OwnIn
import Derived.Test.YtpdjkclacbgneaaTyp
import Derived.Test.YtpdjkclacbgneaaGen
import Derived.OpenShut
import Derived.Test.YtpdjkclacbgneaaHgt
set_option linter.unusedVariables false
set_option linter.unusedSimpArgs false
namespace Go.Proofs.Ytpdjkclacbgneaa
open Go.RowKit Go.Shelf Go.Maps Go.Proofs.YtpdjkclacbgneaaW.PrintWords Go.Proofs.Ytpdjkclacbgneaa.Pl
attribute [local go_sem] Oper.semAt_some

def strR : Value → Option (DataW Unit × List MemPlace)
  | .string s => some (.lit (.string s.data.toList), [])
  | _ => none
theorem strR_inv {v : Value} {z : DataW Unit × List MemPlace} (h : strR v = some z) : ∃ s, v = .string s := by
  unfold strR at h
  split at h
  · exact ⟨_, rfl⟩
  · cases h
/-- The state of Layout in its first loop. -/
structure LySt (pb : Nat) (name : Nm) (words : Int) (w W : World) (X MC MB nn : Nat) (vA vF : Value) : Prop where
  bel : Below w.heap.size w W
  ptr : W.heap[w.heap.size]? = some (.cells #[.pointer (some ⟨pb, 0, none⟩)] 41 (0, 0))
  res : W.heap[w.heap.size + 1]? = some (.cells #[.string nil, .slice none 0 0, .slice none 0 0, .int .i64 0, .slice none 0 0] 59 (0, 0))
  lay : W.heap[X]? = some (.cells #[.string name, vA, vF, .int .i64 words, .slice none 0 0] 59 (0, 0))
  mc : W.heap[MC]? = some (.cells #[.map (some MB)] 102 (0, 0))
  own : ∃ D, W.ownsMap Try.prog 9 strR MB nn D
theorem LySt.below {pb : Nat} {name : Nm} {words : Int} {w W W1 : World} {X MC MB nn : Nat} {vA vF : Value} (h : LySt pb name words w W X MC MB nn vA vF) (hb : Below W.heap.size W W1) : LySt pb name words w W1 X MC MB nn vA vF := by
  obtain ⟨h1, h2, h3, h4, h5, D, h6⟩ := h
  exact ⟨bthen h1 hb, blk_below h2 hb, blk_below h3 hb, blk_below h4 hb, blk_below h5 hb, D, h6.kept (grown_of_below hb none) (by simp)⟩
theorem LySt.kept {pb : Nat} {name : Nm} {words : Int} {w W W1 : World} {X MC MB nn : Nat} {vA vF : Value} {row : Option Nat} (h : LySt pb name words w W X MC MB nn vA vF) (hg : W.grownBy W1 row) (hr : ∀ k, row = some k → w.heap.size ≤ k ∧ MB ≠ k ∧ ∃ o : Obj, W.heap[k]? = some o ∧ o.isCells = false) : LySt pb name words w W1 X MC MB nn vA vF := by
  obtain ⟨h1, h2, h3, h4, h5, D, h6⟩ := h
  have key : ∀ (k : Nat) (cs : Array Value) (t : TypeId), W.heap[k]? = some (Obj.cells cs t (0, 0)) → W1.heap[k]? = some (Obj.cells cs t (0, 0)) := fun k cs t hk => (hg.block k (blk_lt hk) (fun e => by
    obtain ⟨_, _, o, ho, hc⟩ := hr k e.symm
    rw [hk] at ho
    cases ho
    cases hc)).trans hk
  exact ⟨pw_below_grown h1 row h1.size hg (fun k e => (hr k e).1), key _ _ _ h2, key _ _ _ h3, key _ _ _ h4, key _ _ _ h5, D, h6.kept hg (fun e => (hr MB e.symm).2.1 rfl)⟩
theorem LySt.mono {pb : Nat} {name : Nm} {words : Int} {w W : World} {X MC MB nn n2 : Nat} {vA vF : Value} (h : LySt pb name words w W X MC MB nn vA vF) (hn : nn ≤ n2) : LySt pb name words w W X MC MB n2 vA vF := by
  obtain ⟨h1, h2, h3, h4, h5, D, h6⟩ := h
  exact ⟨h1, h2, h3, h4, h5, D, h6.mono hn⟩
/-- A store into the map. -/
theorem LySt.put {pb : Nat} {name : Nm} {words : Int} {w W W1 : World} {X MC MB nn : Nat} {vA vF : Value} {D : DataW Unit} (h : LySt pb name words w W X MC MB nn vA vF) (hl : w.heap.size ≤ MB) (ho : W1.ownsMap Try.prog 9 strR MB (nn + 1) D) (hg : W.grownBy W1 (some MB)) : LySt pb name words w W1 X MC MB (nn + 1) vA vF := by
  obtain ⟨h1, h2, h3, h4, h5, D0, es, clock, hm, _⟩ := h
  have key : ∀ (k : Nat) (cs : Array Value) (t : TypeId), W.heap[k]? = some (Obj.cells cs t (0, 0)) → W1.heap[k]? = some (Obj.cells cs t (0, 0)) := fun k cs t hk => (hg.block k (blk_lt hk) (fun e => by
    cases e
    rw [hk] at hm
    cases hm)).trans hk
  exact ⟨pw_below_grown h1 _ h1.size hg (fun k e => by cases e; exact hl), key _ _ _ h2, key _ _ _ h3, key _ _ _ h4, key _ _ _ h5, D, ho⟩
theorem LySt.cells {pb : Nat} {name : Nm} {words : Int} {w W : World} {X MC MB nn : Nat} {vA vF : Value} (h : LySt pb name words w W X MC MB nn vA vF) : W.cell? ⟨w.heap.size, 0, none⟩ = some (.pointer (some ⟨pb, 0, none⟩)) ∧ W.cell? ⟨MC, 0, none⟩ = some (.map (some MB)) :=
  ⟨Bx.cell ⟨h.ptr⟩ (j := 0) rfl, Bx.cell ⟨h.mc⟩ (j := 0) rfl⟩
theorem look_memZ {α : Type} (z : α) : ∀ (l : List (Nm × α)) (n : Nm), Pl.look z l n = z ∨ ∃ k, (k, Pl.look z l n) ∈ l
  | [], n => .inl rfl
  | (k, v) :: r, n => by
    rw [Pl.look]
    split
    · exact .inr ⟨k, List.mem_cons_self⟩
    · rcases look_memZ z r n with h | ⟨k', h⟩
      · exact .inl h
      · exact .inr ⟨k', List.mem_cons_of_mem _ h⟩
abbrev ENT : TypeId := 111
def OwnE (B : Nat) (w : World) (v : Value) (k : Nat) : Prop := ∃ xs, w.ownsRow B ENT 2 v k xs
theorem enInfo : (Try.prog.info? ENT).map (fun i => (i.zero, i.size, i.bytes)) = some (some (.agg #[.string ⟨#[]⟩, .string ⟨#[]⟩]), 2, 32) := by kernel_rfl
theorem app_en {B : Nat} {W : World} {v : Value} {k : Nat} (a b : Nm) (h : OwnE B W v k) (hB : B ≤ W.heap.size) (hl : k ≤ 1000) :
    ∃ v1 w1, (Builtin.append_ #[57, 57] 57 #[v, .slice (some ⟨W.heap.size, 0, none⟩) 1 1]).run Try.prog (W.alloc (.cells #[.string a, .string b] ENT)) = .ok v1 w1 ∧ OwnE B w1 v1 (k + 1) ∧ W.grownBy w1 v.ownBlock := by
  obtain ⟨xs, h⟩ := h
  obtain ⟨i0, hi, hzz⟩ := Option.map_eq_some_iff.1 enInfo
  simp only [Prod.mk.injEq] at hzz
  obtain ⟨hz0, hz1, hz2⟩ := hzz
  have hb := balloc W (.cells #[.string a, .string b] ENT)
  have hst : Try.prog.underlying 57 = some (.slice ENT) := Try.underlying57
  obtain ⟨v1, w1, hrun, h2, hg, _, hat⟩ := run_append_own_at (P := Try.prog) (w := W.alloc (.cells #[.string a, .string b] ENT)) B 57 57 ENT i0 (.agg #[.string ⟨#[]⟩, .string ⟨#[]⟩]) 2 32 hst hi hz0 hz1 hz2 rfl (by decide) v k xs (pw_own_below h hb) ⟨W.heap.size, 0, none⟩ 1 1 [.string a, .string b] rfl
    (World.news_of_block (blk_new W _)) (fun u hu => by
      simp only [List.mem_cons, List.not_mem_nil, or_false] at hu
      rcases hu with rfl | rfl <;> rfl) (by simp only [maxLen]; omega) (by omega) (Nat.le_trans hB hb.size)
  exact ⟨v1, w1, hrun, ⟨_, h2⟩, World.grownBy.trans (World.grownBy_alloc W _ _) hg⟩
/-- The state of Layout in its last loop. -/
structure LyEnd (name : Nm) (words : Int) (w W : World) (X MC MB nn Dd gk : Nat) (kcs : Array Value) (kt : TypeId) (vA vF : Value) (k : Nat) : Prop where
  bel : Below w.heap.size w W
  res : W.heap[w.heap.size + 1]? = some (.cells #[.string nil, .slice none 0 0, .slice none 0 0, .int .i64 0, .slice none 0 0] 59 (0, 0))
  lay : ∃ T, W.heap[X]? = some (.cells #[.string name, vA, vF, .int .i64 words, T] 59 (0, 0)) ∧ OwnE w.heap.size W T k
  mc : W.heap[MC]? = some (.cells #[.map (some MB)] 102 (0, 0))
  own : ∃ D, W.ownsMap Try.prog 9 strR MB nn D
  df : W.heap[Dd]? = some (.deferred (some []))
  ks : W.heap[gk]? = some (.cells kcs kt (0, 0))
theorem LyEnd.below {name : Nm} {words : Int} {w W W1 : World} {X MC MB nn Dd gk k : Nat} {kcs : Array Value} {kt : TypeId} {vA vF : Value} (h : LyEnd name words w W X MC MB nn Dd gk kcs kt vA vF k) (hb : Below W.heap.size W W1) : LyEnd name words w W1 X MC MB nn Dd gk kcs kt vA vF k := by
  obtain ⟨h1, h2, ⟨T, h3, xs, h4⟩, h5, ⟨D, h6⟩, h7, h8⟩ := h
  exact ⟨bthen h1 hb, blk_below h2 hb, ⟨T, blk_below h3 hb, xs, pw_own_below h4 hb⟩, blk_below h5 hb, ⟨D, h6.kept (grown_of_below hb none) (by simp)⟩, blk_below h7 hb, blk_below h8 hb⟩
theorem LyEnd.more {name : Nm} {words : Int} {w W w1 : World} {X MC MB nn Dd gk k k2 : Nat} {kcs : Array Value} {kt : TypeId} {vA vF T v1 : Value} (hk1 : ENT ≠ kt) (hk2 : kt ≠ 59) (h : LyEnd name words w W X MC MB nn Dd gk kcs kt vA vF k) (hX : w.heap.size + 1 < X) (h3 : W.heap[X]? = some (.cells #[.string name, vA, vF, .int .i64 words, T] 59 (0, 0))) (h4 : OwnE w.heap.size W T k) (ho : OwnE w.heap.size w1 v1 k2) (hg : W.grownBy w1 T.ownBlock) (hMC : MC ≠ X) :
    LyEnd name words w (w1.setCell ⟨X, 4, none⟩ v1) X MC MB nn Dd gk kcs kt vA vF k2 := by
  obtain ⟨h1, h2, _, h5, ⟨D, h6⟩, h7, h8⟩ := h
  obtain ⟨xs, h4⟩ := h4
  obtain ⟨ys, ho⟩ := ho
  have k2' := blk_grown h2 hg (own_ne h4 h2 (by decide))
  have k3 := blk_grown h3 hg (own_ne h4 h3 (by decide))
  have k5 := blk_grown h5 hg (own_ne h4 h5 (by decide))
  have k8 := blk_grown h8 hg (own_ne h4 h8 hk1)
  have hrow : ∀ (j : Nat) (o : Obj), W.heap[j]? = some o → o.isCells = false → some j ≠ T.ownBlock := fun j o hj hc e => by
    obtain ⟨cs, hcs⟩ := own_typed h4 j e.symm
    rw [hj] at hcs
    cases hcs
    cases hc
  have k7 : w1.heap[Dd]? = some (.deferred (some [])) := (hg.block _ (blk_lt h7) (hrow _ _ h7 rfl)).trans h7
  have hgX : gk ≠ X := fun e => by rw [e, h3] at h8; simp only [Option.some.injEq, Obj.cells.injEq] at h8; exact absurd h8.2.1.symm hk2
  have hDX : Dd ≠ X := fun e => by rw [e, h3] at h7; cases h7
  have hMX : MB ≠ X := fun e => by
    obtain ⟨es, ck, hm, _⟩ := h6
    rw [e, h3] at hm
    cases hm
  obtain ⟨es, ck, hm6, _⟩ := id h6
  refine ⟨set_low (pw_below_grown h1 _ h1.size hg (fun k e => own_base h4 k e)) (by omega) _, ?_, ⟨v1, by rw [heap_set k3]; rfl, ys, own_setCell ho (p := ⟨X, 4, none⟩) (own_ne ho k3 (by decide)) _⟩, ?_, ⟨D, (h6.kept hg (hrow _ _ hm6 rfl)).setCell hMX _⟩, ?_, ?_⟩
  · rw [Below.heap_setCell _ _ _ _ (by show w.heap.size + 1 ≠ X; omega)]; exact k2'
  · rw [Below.heap_setCell _ _ _ _ (by show MC ≠ X; exact hMC)]; exact k5
  · rw [Below.heap_setCell _ _ _ _ (by show Dd ≠ X; exact hDX)]; exact k7
  · rw [Below.heap_setCell _ _ _ _ (by show gk ≠ X; exact hgX)]; exact k8
/-- A look-up in such a map hands back a string. -/
theorem own_look {W : World} {b n : Nat} {D : DataW Unit} (h : W.ownsMap Try.prog 9 strR b n D) (s : Nm) : ∃ z, (Instr.lookup 102 (.map (some b)) (.string s) false).run Try.prog W = .ok (.string z) W := by
  have hKs : Try.prog.underlying 9 = some .string := Try.underlying9
  obtain ⟨es, ck, hb, F, _, _⟩ := h
  have hall : ∀ e, e ∈ es.toList → ∃ k v, e.key = .string k ∧ e.val = .string v := fun e he => by
    obtain ⟨y, hy⟩ := F.reads e he
    obtain ⟨k, h1⟩ := Maps.keyOf_string_inv hKs (WideElems.rd_key hy)
    obtain ⟨ps, h2, _⟩ := WideElems.rd_val hy
    obtain ⟨v, h3⟩ := strR_inv h2
    exact ⟨k, v, h1, h3⟩
  obtain ⟨l, hl⟩ : ∃ l : List (Nm × Value), (es.toList.map fun e => (e.key, e.val)) = l.map fun p => (Value.string p.1, p.2) := by
    refine ⟨es.toList.map fun e => (match e.key with | .string k => k | _ => ByteArray.empty, e.val), ?_⟩
    rw [List.map_map]
    refine List.map_congr_left fun e he => ?_
    obtain ⟨k, v, h1, h2⟩ := hall e he
    simp [h1]
  have hm : MapIs W b l := ⟨es, ck, hb, hl⟩
  have hrun := run_look (P := Try.prog) (s := s) hm Try.underlying102 hKs (z := .string ⟨#[]⟩) (by kernel_rfl) false
  rw [hrun]
  have hv : ∀ p, p ∈ l → ∃ v, p.2 = .string v := fun p hp => by
    have h1 : (Value.string p.1, p.2) ∈ es.toList.map fun e => (e.key, e.val) := by rw [hl]; exact List.mem_map.2 ⟨p, hp, rfl⟩
    obtain ⟨e, he, e2⟩ := List.mem_map.1 h1
    obtain ⟨k, v, _, h3⟩ := hall e he
    simp only [Prod.mk.injEq] at e2
    exact ⟨v, e2.2.symm.trans h3⟩
  rcases look_memZ (Value.string ⟨#[]⟩) l s with h3 | ⟨k, h3⟩
  · rw [h3]; exact ⟨_, rfl⟩
  · obtain ⟨v, hv2⟩ := hv _ h3
    simp only at hv2
    simp only [Bool.false_eq_true, if_false]
    rw [hv2]
    exact ⟨_, rfl⟩
set_option maxRecDepth 100000 in
set_option maxHeartbeats 4000000 in
theorem layout_in (pb : Nat) (p : Pg) (name : Nm) (w : World) (H : ProgIs w pb p) (h8 : ∀ n, (clsOf p n).fields.length ≤ 8) (hm8 : ∀ n, (clsOf p n).methods.length ≤ 8) (hsz : ∀ n m, m ∈ (clsOf p n).methods → m.name.size ≤ 1000) (hhas : Pl.has p.h name = true) :
    CallsIn Fence.wide 9 Try.prog 21 #[.pointer (some ⟨pb, 0, none⟩), .string name] w fun e w' => ∃ A1 n1 c1 A2 n2 c2 A3 n3 c3, e = .returned (.tuple #[.agg #[.string name, .slice A1 n1 c1, .slice A2 n2 c2, .int .i64 (slots p name).2, .slice A3 n3 c3], .bool true]) ∧ Below w.heap.size w w' := by
  have HH := Aside0.mk H
  have hpb := H.lt
  have H8 := Aside0.mk h8
  have HM8 := Aside0.mk hm8
  have HSZ := Aside0.mk hsz
  obtain ⟨hgood, ⟨g, hg, hI⟩, _⟩ := H
  have hsm := ancestors_len p.h name hI.small
  have HAN := Aside0.mk (fun W (hb : Below w.heap.size w W) => ancestors_any g p.h name W (hI.below hb) (hgood name))
  have HHAS := Aside0.mk (fun W (hb : Below w.heap.size w W) => has_is (w := W) (hI.below hb) hhas)
  obtain ⟨ns, hns⟩ : ∃ ns, ancestors p.h name = ns := ⟨_, rfl⟩
  have HNS := Lib.hid hns
  obtain ⟨wd, hwd⟩ : ∃ wd, (slots p name).2 = wd := ⟨_, rfl⟩
  have HWD := Lib.hid hwd
  rw [hwd]
  obtain ⟨W1, hW1⟩ : ∃ W1, ((w.alloc (.cells #[.pointer (some ⟨pb, 0, none⟩)] 41)).alloc (.cells #[.string nil, .slice none 0 0, .slice none 0 0, .int .i64 0, .slice none 0 0] 59)) = W1 := ⟨_, rfl⟩
  have hb1 : Below w.heap.size w W1 := by rw [← hW1]; exact bthen (balloc _ _) (balloc _ _)
  have q0 : W1.heap[w.heap.size]? = some (.cells #[.pointer (some ⟨pb, 0, none⟩)] 41 (0, 0)) := by rw [← hW1]; exact blk_alloc (blk_new w _) _
  have q1 : W1.heap[w.heap.size + 1]? = some (.cells #[.string nil, .slice none 0 0, .slice none 0 0, .int .i64 0, .slice none 0 0] 59 (0, 0)) := by rw [← hW1]; exact blk_second w _ _
  have x0 : W1.cell? ⟨w.heap.size, 0, none⟩ = some (.pointer (some ⟨pb, 0, none⟩)) := Bx.cell ⟨q0⟩ (j := 0) rfl
  have hg1 := pw_cell_below hb1 hg
  unfold Pl.nil at hW1
  have hmm := @run_makeMap Try.prog
  clear hgood hI hns hwd h8 hm8 hsz hhas
  refine callsIn_of_wp_marks Try.func21 rfl trivial ?_ rfl
  simp only [Try.ntmps21, List.size_toArray, List.length_cons, List.length_nil, Nat.reduceAdd, Nat.reduceSub, Array.replicate_succ, Array.replicate_zero, List.push_toArray, List.append_toArray, List.nil_append, List.cons_append]
  gi_wp2_with (refine ⟨trivial, ?_⟩; gi_at_call 39; refine (callsIn_wide.2 (HHAS.out W1 hb1)).mono ?_; rintro e w4 ⟨rfl, rfl⟩)
  gi_wp2_with (refine ⟨trivial, ?_⟩; gi_at_call 40; refine (callsIn_wide.2 (HAN.out W1 hb1)).mono ?_; rintro e w2 ⟨v, rfl, hrow, hb2⟩; obtain ⟨A, c, rfl, hc, hC⟩ := Kd.R_reads hrow; rw [HNS.out] at hC hsm hrow hc ⊢; have hz : ∀ o, (w2.alloc o).cell? ⟨w.heap.size, 0, none⟩ = some (.pointer (some ⟨pb, 0, none⟩)) := fun o => pw_cell_below (bthen hb2 (balloc w2 o)) x0)
  have hb3 := bthen hb1 (bthen hb2 (balloc w2 (.cells #[.string name, .slice A ns.length c, .slice none 0 0, .int .i64 0, .slice none 0 0] 59)))
  have hX3 := blk_new w2 (.cells #[.string name, .slice A ns.length c, .slice none 0 0, .int .i64 0, .slice none 0 0] 59)
  obtain ⟨W3, hW3⟩ : ∃ W3, w2.alloc (.cells #[.string name, .slice A ns.length c, .slice none 0 0, .int .i64 0, .slice none 0 0] 59) = W3 := ⟨_, rfl⟩
  rw [hW3] at hb3 hX3 ⊢
  obtain ⟨X, hX⟩ : ∃ X, w2.heap.size = X := ⟨_, rfl⟩
  have hs2 := (bthen hb1 hb2).size
  rw [hX] at hX3 hs2 ⊢
  have q03 : W3.heap[w.heap.size]? = some (.cells #[.pointer (some ⟨pb, 0, none⟩)] 41 (0, 0)) := by rw [← hW3]; exact blk_alloc (blk_below q0 hb2) _
  have q13 : W3.heap[w.heap.size + 1]? = some (.cells #[.string nil, .slice none 0 0, .slice none 0 0, .int .i64 0, .slice none 0 0] 59 (0, 0)) := by rw [← hW3]; exact blk_alloc (blk_below q1 hb2) _
  have hC3 : Kd.string.C W3 A ns.length ns := by rw [← hW3]; exact Kd.C_below hC (balloc _ _)
  obtain ⟨inner, hown⟩ := Kd.R_own hrow
  obtain ⟨ad, csA, tA, hA, hblk3, hadX⟩ : ∃ (ad : Addr) (csA : Array Value) (tA : TypeId), (0 < ns.length → A = some ad) ∧ W3.heap[ad.block]? = some (.cells csA tA (0, 0)) ∧ (ad.block < X ∨ ns.length = 0) := by
    by_cases h0 : 0 < ns.length
    · obtain ⟨ad, e, _⟩ := hC.2.2 h0
      subst e
      obtain ⟨cs, hcs⟩ := own_typed hown ad.block rfl
      exact ⟨ad, cs, _, fun _ => rfl, by rw [← hW3]; exact blk_alloc hcs _, .inl (by rw [← hX]; exact blk_lt hcs)⟩
    · exact ⟨⟨X, 0, none⟩, _, _, fun h => absurd h h0, hX3, .inr (by omega)⟩
  have hX1 : w.heap.size + 1 < X := by rw [← hX]; exact Nat.lt_of_lt_of_le (blk_lt q1) hb2.size
  clear hW3 hz hC hrow x0 hg1 q0 q1 hW1 HAN HHAS
  refine ⟨trivial, ?_⟩
  refine (callsIn_wide.2 (callsIn_wide.1 (slots_in pb p name W3 (HH.out.below hb3) H8.out))).mono ?_
  rintro e w4 ⟨vF, rfl, hF, hb4⟩
  obtain ⟨F, cF, rfl⟩ := own_slice hF
  have hX4 := blk_below hX3 hb4
  have e2 := Bx.cell ⟨hX4⟩ (j := 2) rfl
  have e3 := Bx.cell ⟨hX4⟩ (j := 3) rfl
  have ef : ∀ j, w4.frozen? ⟨X, j, none⟩ = false := fun j => by unfold World.frozen?; rw [hX4]; simp
  obtain ⟨nF, hnF⟩ : ∃ nF, (slots p name).1.length = nF := ⟨_, rfl⟩
  rw [HWD.out, hnF]
  obtain ⟨W5, hW5⟩ : ∃ W5, (w4.setCell ⟨X, 2, none⟩ (.slice F nF cF)).setCell ⟨X, 3, none⟩ (.int .i64 wd) = W5 := ⟨_, rfl⟩
  have hb5 : Below w.heap.size w W5 := by rw [← hW5]; exact set_low (set_low (bthen hb3 hb4) (by omega) _) (by omega) _
  have hX5 : W5.heap[X]? = some (.cells #[.string name, .slice A ns.length c, .slice F nF cF, .int .i64 wd, .slice none 0 0] 59 (0, 0)) := by
    rw [← hW5, heap_set (heap_set hX4)]
    rfl
  have hne : ∀ k : Nat, k ≠ X → W5.heap[k]? = w4.heap[k]? := fun k hk => by rw [← hW5, Below.heap_setCell _ _ _ _ (by simpa using hk), Below.heap_setCell _ _ _ _ (by simpa using hk)]
  have q05 : W5.heap[w.heap.size]? = some (.cells #[.pointer (some ⟨pb, 0, none⟩)] 41 (0, 0)) := by rw [hne _ (by omega)]; exact blk_below q03 hb4
  have q15 : W5.heap[w.heap.size + 1]? = some (.cells #[.string nil, .slice none 0 0, .slice none 0 0, .int .i64 0, .slice none 0 0] 59 (0, 0)) := by rw [hne _ (by omega)]; exact blk_below q13 hb4
  obtain ⟨csB, tB, hblk5⟩ : ∃ (csB : Array Value) (tB : TypeId), W5.heap[ad.block]? = some (.cells csB tB (0, 0)) := by
    by_cases hx : ad.block = X
    · rw [hx]; exact ⟨_, _, hX5⟩
    · exact ⟨_, _, by rw [hne _ hx]; exact blk_below hblk3 hb4⟩
  have hN5 : ∀ (j : Nat) (s : Nm), ns[j]? = some s → W5.cell? (ad.add j) = some (.string s) := fun j s hj => by
    obtain ⟨ad', e, hc'⟩ := at_str hC3 hj
    have h0 : 0 < ns.length := by have := (List.getElem?_eq_some_iff.1 hj).1; omega
    rw [hA h0] at e
    cases e
    have h1 := pw_cell_below hb4 hc'
    have hbx : ad.block ≠ X := by rcases hadX with h | h <;> omega
    exact (cell_of_blk (hne _ (by rw [add_block]; exact hbx))).trans h1
  clear hX3 q03 q13 hblk3 hadX hC3 hF hown hX4 hb3
  obtain ⟨W6, hW6⟩ : ∃ W6, (W5.alloc (.map #[] 0)).alloc (.cells #[.map (some W5.heap.size)] 102) = W6 := ⟨_, rfl⟩
  have hb6 : Below W5.heap.size W5 W6 := by rw [← hW6]; exact bthen (balloc _ _) (balloc _ _)
  have hown6 : W6.ownsMap Try.prog 9 strR W5.heap.size 0 (.map []) := by rw [← hW6]; exact (World.ownsMap_made W5 _ _ _).alloc _
  have hmc6 : W6.heap[W5.heap.size + 1]? = some (.cells #[.map (some W5.heap.size)] 102 (0, 0)) := by rw [← hW6]; exact blk_second W5 _ _
  have S6 : LySt pb name wd w W6 X (W5.heap.size + 1) W5.heap.size 0 (.slice A ns.length c) (.slice F nF cF) := ⟨bthen hb5 hb6, blk_below q05 hb6, blk_below q15 hb6, blk_below hX5 hb6, hmc6, _, hown6⟩
  have e61 : W6.cell? ⟨X, 1, none⟩ = some (.slice A ns.length c) := Bx.cell ⟨S6.lay⟩ (j := 1) rfl
  have hblk6 := blk_below hblk5 hb6
  have hN6 : ∀ (j : Nat) (s : Nm), ns[j]? = some s → W6.cell? (ad.add j) = some (.string s) := fun j s hj => pw_cell_below hb6 (hN5 j s hj)
  clear hown6 hmc6 hN5 hblk5 q05 q15 hX5
  gi_wp2_with (refine ⟨trivial, ?_⟩; gi_at_call 41; refine (backB_in Fence.wide 8 trivial rfl _ ⟨_, _, _, rfl⟩ _).mono ?_; rintro e w5 ⟨rfl, rfl⟩)
  obtain ⟨W7, hW7⟩ : ∃ W7, W6.alloc (.cells #[.slice A ns.length c] 55) = W7 := ⟨_, rfl⟩
  have hb7 : Below W6.heap.size W6 W7 := by rw [← hW7]; exact balloc _ _
  have hB7 : W7.heap[W6.heap.size]? = some (.cells #[.slice A ns.length c] 55 (0, 0)) := by rw [← hW7]; exact blk_new _ _
  have hBn : W7.cell? ⟨W6.heap.size, 0, none⟩ = some (.slice A ns.length c) := Bx.cell ⟨hB7⟩ (j := 0) rfl
  have S7 := S6.below hb7
  have hblk7 := blk_below hblk6 hb7
  have hN7 : ∀ (j : Nat) (s : Nm), ns[j]? = some s → W7.cell? (ad.add j) = some (.string s) := fun j s hj => pw_cell_below hb7 (hN6 j s hj)
  have hsz7 : W6.heap.size < W7.heap.size := blk_lt hB7
  have hszA := blk_lt hblk7
  have hs56 : W5.heap.size + 1 < W6.heap.size := blk_lt S6.mc
  have hs5 := hb5.size
  rw [hW7]
  obtain ⟨MB, hMB⟩ : ∃ MB, W5.heap.size = MB := ⟨_, rfl⟩
  obtain ⟨Bn, hBN⟩ : ∃ Bn, W6.heap.size = Bn := ⟨_, rfl⟩
  rw [hMB] at S7 hs56 hs5 ⊢
  rw [hBN] at hBn hB7 hsz7 hs56 ⊢
  clear hW7 hW6 hW5 e61 e2 e3 ef hne S6 hblk6 hN6 hMB hBN hb6 hb5 hb7 hb4 hb2 hb1 hmm
  refine wpIn_rangeFunc_ownH (α := Int × Nm) rfl (by decide) (gf := 68) (lb := #[.pointer (some ⟨Bn, 0, none⟩)]) rfl trivial (enters_of Try.func68 (by kernel_rfl) rfl)
    (encs := fun x => #[.int .i64 x.1, .string x.2]) (Kp := KpB Bn ad) (S := fun ys => ys.map (·.2) = ns.reverse) (Sp := fun _ => True) (N := ns.length) (w0 := W7)
    (fun l J Jx W hW _ _ hY h0 => backS_in Fence.wide 8 trivial rfl (by decide) l Bn ad c ns J Jx hY W (by omega) A hA ((hW.cell (p := ⟨Bn, 0, none⟩) hsz7).trans hBn) (fun j s hj => (pw_cell_below hW (hN7 j s hj))) h0)
    (fun h k => ⟨k.1.trans h.1, fun j => (k.2 j).trans (h.2 j)⟩) (fun W l o o' hl _ _ _ => ?kb) (Below.refl _ _) (fun _ => rfl)
    (fun pre W => LySt pb name wd w W X (MB + 1) MB (8 * pre.length) (.slice A ns.length c) (.slice F nF cF) ∧ W.heap[Bn]? = some (.cells #[.slice A ns.length c] 55 (0, 0)) ∧ W.heap[ad.block]? = some (.cells csB tB (0, 0)))
    (fun _ _ _ => False)
    (fun s X Y row hs hg hr => ?own)
    (fun _ _ _ _ _ hs _ _ => hs)
    ⟨S7, hB7, hblk7⟩
    (fun x a' W => a' = { tmps := #[.pointer (some ⟨pb, 0, none⟩), .string name, .pointer (some ⟨w.heap.size, 0, none⟩), undef, .pointer (some ⟨w.heap.size + 1, 0, none⟩), .bool false, .pointer (some ⟨X, 0, none⟩), .pointer (some ⟨MB + 1, 0, none⟩), undef, .string x.2, undef, undef, undef, undef, .pointer (some ⟨pb, 0, none⟩), .pointer (some ⟨pb, 0, none⟩), .pointer (some ⟨pb, 0, none⟩), .pointer (some ⟨g, 0, none⟩), .string name, .bool true, .bool false, undef, .string name, .pointer (some ⟨pb, 0, none⟩), .pointer (some ⟨pb, 0, none⟩), .pointer (some ⟨pb, 0, none⟩), .pointer (some ⟨g, 0, none⟩), .string name, .slice A ns.length c, .agg #[.string name, .slice A ns.length c, .slice none 0 0, .int .i64 0, .slice none 0 0], .tuple #[.slice F nF cF, .int .i64 wd], .pointer (some ⟨pb, 0, none⟩), .string name, .tuple #[.slice F nF cF, .int .i64 wd], .slice F nF cF, .int .i64 wd, .pointer (some ⟨X, 2, none⟩), .pointer (some ⟨X, 3, none⟩), .map (some MB), .pointer (some ⟨X, 1, none⟩), .slice A ns.length c, .func (.func 68) #[] #[.pointer (some ⟨Bn, 0, none⟩)], .int .i64 x.1, .string x.2, undef, undef, undef, undef, undef, undef, undef, undef, undef, undef, undef, undef, undef, undef, undef, undef, undef, undef, undef, undef, undef, undef, undef, undef, undef, undef, undef, undef, undef, undef, undef, undef, undef, undef, undef, undef, undef], defers := [] })
    (fun x a' _ X Y row hs hg hr => hs)
    ?assign ?body ?done ?stop
  case kb =>
    exact ⟨cell_of_blk (World.putObj_heap_other (by show Bn ≠ l; omega)), fun j => cell_of_blk (World.putObj_heap_other (by rw [add_block]; omega))⟩
  case own =>
    obtain ⟨h1, h2, h3⟩ := hs
    refine ⟨h1.kept hg (fun k e => ⟨by have := (hr k e).1; omega, by have := (hr k e).1; omega, (hr k e).2⟩), (hg.block _ (blk_lt h2) (fun e => ?_)).trans h2, (hg.block _ (blk_lt h3) (fun e => ?_)).trans h3⟩
    · have := (hr _ e.symm).1; omega
    · have := (hr _ e.symm).1; omega
  case assign =>
    rintro l pre x W K ⟨h1, h2, h3⟩ hK
    gi_wp2
    exact hK _ _ (KeepsFrom.refl _ _) ⟨rfl, fun _ => rfl⟩ ⟨h1, h2, h3⟩ rfl
  case body =>
    rintro l pre x a' W hl ⟨rr, hr⟩ ⟨h1, h2, h3⟩ rfl hlt
    obtain ⟨ix, x⟩ := x
    obtain ⟨_, _, b, vs, hbc0, hmap0, hcls⟩ := HH.out
    have hbc := pw_cell_below h1.bel hbc0
    have hmap := hmap0.below h1.bel
    have hT : Try.prog.underlying 91 = some (.map 9 72) := Try.underlying91
    have hKs : Try.prog.underlying 9 = some .string := Try.underlying9
    have hT2 : Try.prog.underlying 102 = some (.map 9 9) := Try.underlying102
    have hrf := run_methods
    obtain ⟨cs, hcs, hK⟩ : ∃ cs, Pl.look (.agg zCl.toArray) vs x = .agg cs.toArray ∧ clK.K w (clsOf p x) cs := hcls.look x
    obtain ⟨D0, e0, D1, e1, D2, e2, rfl, ⟨k0, k1, k2⟩, r0, r1, r2⟩ := clK_open hK
    obtain ⟨mc, CM0, KM⟩ := cells_of default r2
    have hlk : (Instr.lookup 91 (.map (some b)) (.string x) false).run Try.prog W = .ok (Pl.look (.agg zCl.toArray) vs x) W := run_look (P := Try.prog) (s := x) hmap hT hKs (z := .agg zCl.toArray) (by kernel_rfl) false
    rw [hcs] at hlk
    obtain ⟨ms, hms⟩ : ∃ ms, (clsOf p x).methods = ms := ⟨_, rfl⟩
    have h8x := HM8.out x
    have hszx := HSZ.out x
    rw [hms] at CM0 KM h8x hszx hlk
    have HSX := Aside0.mk hszx
    have CM0 : Aside0 (Cells w D2 ms.length 8 mc) := ⟨CM0⟩
    have KM := Aside0.mk KM
    obtain ⟨x0, x1⟩ := h1.cells
    have H1 := Aside0.mk h1
    have H2 := Aside0.mk h2
    have H3 := Aside0.mk h3
    have hnm := CM0.out.1
    clear hK hcls hmap hmap0 hbc0 r0 r1 r2 hcs hms h1 h2 h3 hszx
    gi_wp2
    gi_loopw [52] (fun s52 wr => ∃ j : Nat, j ≤ ms.length ∧ s52 = .int .i64 j ∧ Aside0 (LySt pb name wd w wr X (MB + 1) MB (8 * pre.length + j) (.slice A ns.length c) (.slice F nF cF)) ∧ Aside0 (wr.heap[Bn]? = some (.cells #[.slice A ns.length c] 55 (0, 0)) ∧ wr.heap[ad.block]? = some (.cells csB tB (0, 0)) ∧ KeepsFrom W7.heap.size W wr)) (fun s52 _ => ms.length - (intOf s52).toNat)
    case atStart => exact ⟨0, Nat.zero_le _, rfl, H1, ⟨H2.out, H3.out, KeepsFrom.refl _ _⟩⟩
    case round =>
      obtain ⟨j, hj, rfl, HS, HB⟩ := hrel
      clear x0 x1
      by_cases hlt : j < ms.length
      · have hltz : (j : Int) < (ms.length : Int) := by omega
        have hj0 : (0 : Int) ≤ (j : Int) := by omega
        obtain ⟨m, hm⟩ : ∃ m, ms[j]? = some m := ⟨_, List.getElem?_eq_getElem hlt⟩
        have CM3 : Cells wr D2 ms.length 8 mc := CM0.out.below HS.out.bel
        obtain ⟨ae, rfl, _⟩ := CM3.2 (by omega)
        have hm0 := KM.out j hlt
        rw [List.getD_eq_getElem?_getD, hm, Option.getD_some] at hm0
        obtain ⟨B0, d0, B1, d1, B2, d2, hmc, _⟩ := mtK_open hm0
        have l0 := CM3.at0 hlt (v := .string m.name) (by rw [hmc]; rfl)
        have l1 := CM3.at_ (i := 1) hlt (by decide) (v := .slice B0 m.params.length d0) (by rw [hmc]; rfl)
        have l2 := CM3.at_ (i := 2) hlt (by decide) (v := .int .i64 m.ret.kind) (by rw [hmc]; rfl)
        have l3 := CM3.at_ (i := 3) hlt (by decide) (v := .string m.ret.cls) (by rw [hmc]; rfl)
        have l4 := CM3.at_ (i := 4) hlt (by decide) (v := .int .i64 m.locals) (by rw [hmc]; rfl)
        have l5 := CM3.at_ (i := 5) hlt (by decide) (v := .int .i64 m.stack) (by rw [hmc]; rfl)
        have l6 := CM3.at_ (i := 6) hlt (by decide) (v := .slice B1 m.code.length d1) (by rw [hmc]; rfl)
        have l7 := CM3.at_ (i := 7) hlt (by decide) (v := .slice B2 m.handlers.length d2) (by rw [hmc]; rfl)
        have hns1 := HSX.out m (List.mem_of_getElem? hm)
        obtain ⟨wr1, hwr1⟩ : ∃ wr1, wr.alloc (.cells #[.string m.name, .slice B0 m.params.length d0, .int .i64 m.ret.kind, .string m.ret.cls, .int .i64 m.locals, .int .i64 m.stack, .slice B1 m.code.length d1, .slice B2 m.handlers.length d2] 66) = wr1 := ⟨_, rfl⟩
        have hb1 : Below wr.heap.size wr wr1 := by rw [← hwr1]; exact balloc _ _
        have hfb : wr1.heap[wr.heap.size]? = some (.cells #[.string m.name, .slice B0 m.params.length d0, .int .i64 m.ret.kind, .string m.ret.cls, .int .i64 m.locals, .int .i64 m.stack, .slice B1 m.code.length d1, .slice B2 m.handlers.length d2] 66 (0, 0)) := by rw [← hwr1]; exact blk_new _ _
        have S1 := HS.out.below hb1
        have y0 : wr1.cell? ⟨wr.heap.size, 0, none⟩ = some (.string m.name) := Bx.cell ⟨hfb⟩ (j := 0) rfl
        obtain ⟨z0, z1⟩ := S1.cells
        obtain ⟨D, hD⟩ := S1.own
        have hkey : keyOf Try.prog 9 (.string m.name) = some (.string m.name.data.toList) := WideMaps.keyOf_string_mk hKs (by unfold maxLen; omega)
        obtain ⟨W9, hrun, ho9, hg9⟩ := hD.update (string_keyed hKs) hT2 (by unfold maxLen; have := HB.out; omega) hkey (val := .string x) (d := .lit (.string x.data.toList)) (ps := []) rfl
        have S9 := Aside0.mk (S1.put (by omega) ho9 hg9)
        obtain ⟨es9, ck9, hmp9, _⟩ := hD
        have keep9 : ∀ (k : Nat) (cs : Array Value) (t : TypeId), wr.heap[k]? = some (Obj.cells cs t (0, 0)) → W9.heap[k]? = some (Obj.cells cs t (0, 0)) := fun k cs t hk => by
          have h1 := blk_below hk hb1
          exact (hg9.block k (blk_lt h1) (fun e => by cases e; rw [h1] at hmp9; cases hmp9)).trans h1
        have HB9 : Aside0 (W9.heap[Bn]? = some (.cells #[.slice A ns.length c] 55 (0, 0)) ∧ W9.heap[ad.block]? = some (.cells csB tB (0, 0)) ∧ KeepsFrom W7.heap.size W W9) := ⟨keep9 _ _ _ HB.out.1, keep9 _ _ _ HB.out.2.1, HB.out.2.2.trans (((KeepsOthers.of_grownBy (grown_of_below hb1 none) (fun j o e => by cases e)).from _).trans (KeepsFrom.of_grownBy hg9 (fun j e => by cases e; omega)))⟩
        clear keep9 hmp9 ho9 hg9 hfb hkey hm hm0 hmc CM3 hb1 S1 hns1
        gi_wp2
        go_roundw
        case rel => exact ⟨j + 1, hlt, by go_num, S9, HB9⟩
        case measure => simp [intOf]; omega
      · have hltz : ¬ (j : Int) < (ms.length : Int) := by omega
        have hS := HS.out.mono (show 8 * pre.length + j ≤ 8 * (pre ++ [(ix, x)]).length by rw [List.length_append]; simp; omega)
        have HS2 := Aside0.mk hS
        clear hS HS
        gi_wp2
        refine ⟨HB.out.2.2, ⟨cell_of_blk (HB.out.1.trans H2.out.symm), fun i => cell_of_blk ?_⟩, HS2.out, HB.out.1, HB.out.2.1⟩
        rw [add_block]
        exact HB.out.2.1.trans H3.out.symm
  case done =>
    rintro D ys W hD hys ⟨h1, h2, h3⟩ hK
    have hyl : ys.length = ns.length := by have := congrArg List.length hys; simpa using this
    obtain ⟨x0, x1⟩ := h1.cells
    obtain ⟨D0, hD0⟩ := h1.own
    have hszD : Maps.size D0 ≤ 160 := by
      obtain ⟨es, ck, _, _, hs, rfl⟩ := hD0
      rw [Maps.size_eq, length_sorted]
      simp
      omega
    have HSO := Aside0.mk (Try.slices_Sorted_keys_42_43 MB _ D0 strR W hD0 (by unfold maxLen; omega) (by omega))
    have H1 := Aside0.mk h1
    have HK := Aside0.mk hK
    clear h1 h2 h3 hK hD0
    gi_wp2_with (first
      | (refine ⟨trivial, ?_⟩; gi_at_call 43; refine (callsIn_wide.2 (callsIn_wide.1 (Try.maps_Keys_43 _ _))).mono ?_; rintro e w' ⟨rfl, rfl⟩)
      | (refine ⟨trivial, ?_⟩; gi_at_call 42; refine (callsIn_wide.2 (callsIn_wide.1 HSO.out)).mono ?_; rintro e w8 ⟨v, ss, rfl, hP, hrow, hnil, hb8⟩; obtain ⟨AK, cK, rfl⟩ := own_slice hrow))
    obtain ⟨n, hn⟩ : ∃ n, ss.length = n := ⟨_, rfl⟩
    have hnle : n ≤ 1000 := by
      have h1 := hP.length_eq
      have h2 : (strKeys D0).length = Maps.size D0 := by
        unfold strKeys Maps.size
        cases D0 <;> simp
      omega
    have hb78 : Below W.heap.size W w8 := bthen (balloc W (.cells #[.map (some MB)] 102)) hb8
    have S8 := H1.out.below hb78
    have hK8 : w8.heap[D]? = some (.deferred (some [])) := blk_below HK.out hb78
    obtain ⟨gk, kcs, kt, hkt1, hkt2, hks, hAK, hrd⟩ : ∃ (gk : Nat) (kcs : Array Value) (kt : TypeId), ENT ≠ kt ∧ kt ≠ 59 ∧ w8.heap[gk]? = some (.cells kcs kt (0, 0)) ∧ (0 < n → AK = some ⟨gk, 0, none⟩) ∧ ∀ j, j < n → ∃ s, kcs[j]? = some (.string s) := by
      rcases hrow.2 with ⟨hv, h0⟩ | ⟨gk, cap, cur, hv, _, hh, _, _, _, h4⟩
      · exact ⟨_, _, _, by decide, by decide, S8.mc, fun h => by omega, fun j hj => by omega⟩
      · refine ⟨gk, cur, 9, by decide, by decide, hh, fun _ => ?_, fun j hj => ?_⟩
        · injection hv
        · have hlen : (ss.mergeSort (fun x y => decide (x ≤ y))).length = n := by rw [List.length_mergeSort]; exact hn
          have hj2 : j < (ss.mergeSort (fun x y => decide (x ≤ y))).length := by omega
          have e1 : ((ss.mergeSort (fun x y => decide (x ≤ y))).map encStr)[j]? = some (encStr ((ss.mergeSort (fun x y => decide (x ≤ y)))[j])) := by rw [List.getElem?_map, List.getElem?_eq_getElem hj2]; rfl
          rw [← h4, List.getElem?_take, if_pos (by omega)] at e1
          rw [← Array.getElem?_toList]
          exact ⟨_, e1⟩
    rw [hn]
    have L0 : Aside0 (LyEnd name wd w w8 X (MB + 1) MB (8 * ys.length) D gk kcs kt (.slice A ns.length c) (.slice F nF cF) 0) := ⟨⟨S8.bel, S8.res, ⟨_, S8.lay, [], own_nil _ _ _ _⟩, S8.mc, S8.own, hK8, hks⟩⟩
    have hmaxn : (n : Int) ≤ 9223372036854775807 := by omega
    have HRD := Aside0.mk hrd
    have hMBX : MB + 1 ≠ X := fun e => by
      have h1 := S8.mc
      rw [e, S8.lay] at h1
      simp only [Option.some.injEq, Obj.cells.injEq] at h1
      exact absurd h1.2.1 (by decide)
    clear S8 hK8 hks hb78 hb8 hrow hP hnil hn x0 x1 HSO H1 HK hrd
    gi_loopw [65] (fun s65 wr => ∃ j : Nat, j ≤ n ∧ s65 = .int .i64 j ∧ Aside0 (LyEnd name wd w wr X (MB + 1) MB (8 * ys.length) D gk kcs kt (.slice A ns.length c) (.slice F nF cF) j)) (fun s65 _ => n - (intOf s65).toNat)
    case atStart => exact ⟨0, Nat.zero_le _, rfl, L0⟩
    case round =>
      clear L0
      obtain ⟨j, hj, rfl, HL⟩ := hrel
      have hj0 : (0 : Int) ≤ (j : Int) := by omega
      obtain ⟨T, hlay, howE⟩ := HL.out.lay
      have t4 : wr.cell? ⟨X, 4, none⟩ = some T := Bx.cell ⟨hlay⟩ (j := 4) rfl
      by_cases hlt : j < n
      · have hltz : (j : Int) < (n : Int) := by omega
        obtain ⟨s, hs⟩ := HRD.out j hlt
        obtain rfl := hAK (by omega)
        have k0 : wr.cell? ⟨gk, j, none⟩ = some (.string s) := Bx.cell ⟨HL.out.ks⟩ hs
        have m0 : wr.cell? ⟨MB + 1, 0, none⟩ = some (.map (some MB)) := Bx.cell ⟨HL.out.mc⟩ (j := 0) rfl
        obtain ⟨D2, hD2⟩ := HL.out.own
        obtain ⟨z, hz⟩ := own_look hD2 s
        obtain ⟨v1, w9, E1, o9, g9⟩ := app_en s z howE HL.out.bel.size (by omega)
        have L1 := HL.out.more hkt1 hkt2 hX1 hlay howE o9 g9 hMBX
        have hlay9 := blk_grown hlay g9 (own_ne howE.choose_spec hlay (by decide))
        have t49 : w9.cell? ⟨X, 4, none⟩ = some T := Bx.cell ⟨hlay9⟩ (j := 4) rfl
        have tf9 : w9.frozen? ⟨X, 4, none⟩ = false := blk_frozen hlay9 4
        obtain ⟨A1, c1, rfl⟩ := own_slice o9.choose_spec
        obtain ⟨AT, cT, rfl⟩ := own_slice howE.choose_spec
        have L1 := Aside0.mk L1
        clear o9 g9 hlay9 hlay hD2 hs
        gi_wp2_with (gi_at_builtin; refine wpListIn_append_E rfl _ _ _ rfl rfl rfl E1 ?_)
        gi_wp2
        go_roundw
        case rel => exact ⟨j + 1, hlt, by go_num, L1⟩
        case measure => simp [intOf]; omega
      · have hltz : ¬ (j : Int) < (n : Int) := by omega
        obtain ⟨AT, cT, rfl⟩ := own_slice howE.choose_spec
        have r0 := Bx.cell ⟨hlay⟩ (j := 0) rfl
        have r1 := Bx.cell ⟨hlay⟩ (j := 1) rfl
        have r2 := Bx.cell ⟨hlay⟩ (j := 2) rfl
        have r3 := Bx.cell ⟨hlay⟩ (j := 3) rfl
        have p0 := Bx.cell ⟨HL.out.res⟩ (j := 0) rfl
        have p1 := Bx.cell ⟨HL.out.res⟩ (j := 1) rfl
        have p2 := Bx.cell ⟨HL.out.res⟩ (j := 2) rfl
        have p3 := Bx.cell ⟨HL.out.res⟩ (j := 3) rfl
        have p4 := Bx.cell ⟨HL.out.res⟩ (j := 4) rfl
        have pf : ∀ j, wr.frozen? ⟨w.heap.size + 1, j, none⟩ = false := fun j => blk_frozen HL.out.res j
        have hres := HL.out.res
        have hdf := HL.out.df
        have hbl := HL.out.bel
        have hDn : D ≠ w.heap.size + 1 := fun e => by rw [e, hres] at hdf; cases hdf
        clear howE
        gi_wp2
        obtain ⟨W', hW'⟩ : ∃ W', (((((wr.setCell ⟨w.heap.size + 1, 0, none⟩ (.string name)).setCell ⟨w.heap.size + 1, 1, none⟩ (.slice A ns.length c)).setCell ⟨w.heap.size + 1, 2, none⟩ (.slice F nF cF)).setCell ⟨w.heap.size + 1, 3, none⟩ (.int .i64 wd)).setCell ⟨w.heap.size + 1, 4, none⟩ (.slice AT j cT)) = W' := ⟨_, rfl⟩
        have hres' : W'.heap[w.heap.size + 1]? = some (.cells #[.string name, .slice A ns.length c, .slice F nF cF, .int .i64 wd, .slice AT j cT] 59 (0, 0)) := by
          rw [← hW', heap_set (heap_set (heap_set (heap_set (heap_set hres))))]
          rfl
        have hbl' : Below w.heap.size w W' := by
          rw [← hW']
          exact set_low (set_low (set_low (set_low (set_low hbl (Nat.le_succ _) _) (Nat.le_succ _) _) (Nat.le_succ _) _) (Nat.le_succ _) _) (Nat.le_succ _) _
        have hdf' : W'.heap[D]? = some (.deferred (some [])) := by
          rw [← hW', Below.heap_setCell _ _ _ _ hDn, Below.heap_setCell _ _ _ _ hDn, Below.heap_setCell _ _ _ _ hDn, Below.heap_setCell _ _ _ _ hDn, Below.heap_setCell _ _ _ _ hDn]
          exact hdf
        rw [hW']
        refine ⟨by simp, .inl ⟨_, _, rfl, run_takeDeferred hdf', ?_⟩⟩
        have hres2 : (W'.putObj D (.deferred none)).heap[w.heap.size + 1]? = _ := (World.putObj_heap_other (Ne.symm hDn)).trans hres'
        have hbl2 : Below w.heap.size w (W'.putObj D (.deferred none)) := pw_below_grown hbl' _ hbl'.size (grownBy_putObj' W' D (.deferred none)) (fun k e => by cases e; omega)
        refine ⟨_, results_ct rfl _ _ _ _ _ _ _ rfl hres2 Try.underlying59 rfl (by kernel_rfl), ?_⟩
        first | exact ⟨⟨_, _, _, _, _, _, _, _, _, rfl⟩, hbl2⟩ | exact ⟨_, _, _, _, _, _, _, _, _, rfl, hbl2⟩
  case stop =>
    rintro D c pre W hD _ h _
    exact h.elim
end Go.Proofs.Ytpdjkclacbgneaa
namespace Go.Proofs.Ytpdjkclacbgneaa
open Go.RowKit Go.Shelf Go.Proofs.YtpdjkclacbgneaaW.PrintWords Go.Proofs.Ytpdjkclacbgneaa.Pl

theorem OwnStr.reads {B : Nat} {w : World} {v : Value} {l : List Nm} (h : OwnStr B w v l) : ∃ A c, v = .slice A l.length c ∧ l.length ≤ c ∧ Kd.string.C w A l.length l := by
  obtain ⟨A, c, hv, hr⟩ := own_reads_row (R := Kd.string.K w) (ps := l) h ⟨by simp, fun j p hj => by
    have hl := (List.getElem?_eq_some_iff.1 hj).1
    have h1 : ((l.map Value.string).drop (j * 1)).take 1 = [.string p] := by
      rw [Nat.mul_one, List.drop_eq_getElem_cons (by simpa using hl)]
      simp [(List.getElem?_eq_some_iff.1 hj).2]
    rw [h1]
    rfl⟩ rfl
  refine ⟨A, c, hv, ?_, hr⟩
  subst hv
  exact own_le h
def numOf (p : Pg) (name : Nm) : Int := idxB (fun j => decide (name = (p.h.map (·.1)).getD j ByteArray.empty)) (p.h.map (·.1)).length
set_option maxRecDepth 10000 in
set_option maxHeartbeats 400000 in
theorem number_any (pb : Nat) (p : Pg) (name : Nm) (w : World) (H : ProgIs w pb p) (hne : 0 < p.h.length) :
    Calls Try.prog 29 #[.pointer (some ⟨pb, 0, none⟩), .string name] w fun e w' => e = .returned (.int .i64 (numOf p name)) ∧ Below w.heap.size w w' := by
  obtain ⟨_, ⟨g, hg, hI⟩, _⟩ := H
  have NA := Aside0.mk (names_any g p.h w hI hne)
  unfold numOf
  obtain ⟨ns, hns⟩ : ∃ ns, p.h.map (·.1) = ns := ⟨_, rfl⟩
  rw [hns] at NA ⊢
  obtain ⟨r, hr⟩ : ∃ r, idxB (fun j => decide (name = ns.getD j ByteArray.empty)) ns.length = r := ⟨_, rfl⟩
  have HR := Lib.hid hr
  rw [hr]
  clear hI hr hns
  go_enter Try.func29, Try.ntmps29
  go_wp2_with fail
  refine NA.out.mono ?_
  rintro e w1 ⟨v, rfl, h1, hb1⟩
  obtain ⟨A, c, rfl, hc, hC⟩ := h1.reads
  have ix := indexStr_any ns A c name w1 hC
  rw [HR.out] at ix
  have IX := Aside0.mk ix
  have B1 := Aside0.mk hb1
  clear ix
  clear h1 hC hb1 hc
  go_wp2_with fail
  refine IX.out.mono ?_
  rintro e w2 ⟨rfl, hb2⟩
  have B2 := Aside0.mk (bthen B1.out hb2)
  go_wp2
  go_ret
  exact ⟨rfl, B2.out⟩
def nameOf (p : Pg) (n : Int) : Nm := if n < 0 then ByteArray.empty else (p.h.map (·.1)).getD n.toNat ByteArray.empty
set_option maxRecDepth 10000 in
set_option maxHeartbeats 400000 in
theorem name_any (pb : Nat) (p : Pg) (k : Int) (w : World) (H : ProgIs w pb p) (hne : 0 < p.h.length) :
    Calls Try.prog 30 #[.pointer (some ⟨pb, 0, none⟩), .int .i64 k] w fun e w' => e = .returned (.string (nameOf p k)) ∧ Below w.heap.size w w' := by
  obtain ⟨_, ⟨g, hg, hI⟩, _⟩ := H
  have NA := Aside0.mk (names_any g p.h w hI hne)
  obtain ⟨ns, hns⟩ : ∃ ns, p.h.map (·.1) = ns := ⟨_, rfl⟩
  obtain ⟨r, hr⟩ : ∃ r, nameOf p k = r := ⟨_, rfl⟩
  rw [hr]
  unfold nameOf at hr
  rw [hns] at NA hr
  have HR0 := Lib.hid hr
  clear hI hns hr
  go_enter Try.func30, Try.ntmps30
  go_wp2_with fail
  refine NA.out.mono ?_
  rintro e w1 ⟨v, rfl, h1, hb1⟩
  obtain ⟨A, c, rfl, hc, hC⟩ := h1.reads
  have HC := Aside0.mk hC
  have B1 := Aside0.mk hb1
  have hmax := hC.2.1
  clear h1 hC hb1 hc
  by_cases hneg : k < 0
  · have HR : Hid (r = ByteArray.empty) := Lib.hid (by rw [← HR0.out, if_pos hneg])
    go_wp2
    go_ret
    exact ⟨by rw [HR.out]; rfl, B1.out⟩
  obtain ⟨j, rfl⟩ : ∃ j : Nat, k = j := ⟨k.toNat, by omega⟩
  obtain ⟨n, hn⟩ : ∃ n, ns.length = n := ⟨_, rfl⟩
  rw [hn] at hmax ⊢
  by_cases hge : (j : Int) ≥ (n : Int)
  · have HR : Hid (r = ByteArray.empty) := Lib.hid (by rw [← HR0.out, if_neg hneg, Int.toNat_natCast, List.getD_eq_getElem?_getD, List.getElem?_eq_none (by omega)]; rfl)
    go_wp2
    go_ret
    exact ⟨by rw [HR.out]; rfl, B1.out⟩
  · obtain ⟨x, hx⟩ : ∃ x, ns[j]? = some x := ⟨_, List.getElem?_eq_getElem (by omega)⟩
    obtain ⟨ad, rfl, l0⟩ := at_str HC.out hx
    have HR : Hid (r = x) := Lib.hid (by rw [← HR0.out, if_neg hneg, Int.toNat_natCast, List.getD_eq_getElem?_getD, hx]; rfl)
    have hj0 : (0 : Int) ≤ (j : Int) := by omega
    have hjn : (j : Int) < (n : Int) := by omega
    clear hx
    go_wp2
    go_ret
    exact ⟨by rw [HR.out]; rfl, B1.out⟩
/-- A row of two elements. -/
theorem row_two {α : Type} (d : Kd α) {w : World} {g : Nat} {t : TypeId} {x y : α} {c0 c1 : List Value} (h : w.heap[g]? = some (.cells (c0 ++ c1).toArray t (0, 0))) (k0 : d.K w x c0) (k1 : d.K w y c1) : d.C w (some ⟨g, 0, none⟩) 2 [x, y] :=
  ⟨rfl, by omega, fun _ => ⟨_, rfl, fun j p hj => by
    have hj2 : j < 2 := (List.getElem?_eq_some_iff.1 hj).1
    rcases (by omega : j = 0 ∨ j = 1) with rfl | rfl
    · cases hj
      refine ⟨c0, d.K_len k0, k0, fun i u hu => ?_⟩
      rw [add_zero_off]
      exact Bx.cell ⟨h⟩ (by rw [Nat.zero_mul, Nat.zero_add, List.getElem?_toArray, List.getElem?_append_left (List.getElem?_eq_some_iff.1 hu).1]; exact hu)
    · cases hj
      refine ⟨c1, d.K_len k1, k1, fun i u hu => ?_⟩
      rw [add_zero_off]
      exact Bx.cell ⟨h⟩ (by rw [Nat.one_mul, List.getElem?_toArray, List.getElem?_append_right (by rw [d.K_len k0]; omega), d.K_len k0, Nat.add_sub_cancel_left]; exact hu)⟩⟩
theorem fdK_cs (w : World) (f : Pl.Fd) : fdK.K w f (fdCs f) := ⟨[.string f.name], _, rfl, rfl, [.int .i64 f.ty.kind, .string f.ty.cls], [.bool f.vol], rfl, tyK_cs w f.ty, rfl⟩
def fdM : List Pl.Fd := [⟨⟨#[99]⟩, ⟨2, nil⟩, false⟩, ⟨⟨#[110]⟩, ⟨1, nil⟩, false⟩]
def mtRet (nm : Nm) : Mt := ⟨nm, [], ⟨0, nil⟩, 1, 0, [⟨33, 0⟩], []⟩
def clM7 : Cl := ⟨nMain, nil, [], fdM, [mtRet nmain]⟩
theorem cl7_mk {w : World} (name sup : Nm) (fs : List Pl.Fd) (ms : List Mt) {A B : Option Addr} {c d : Nat} (hc : fs.length ≤ c) (hf : fdK.C w A fs.length fs) (hd : ms.length ≤ d) (hm : mtK.C w B ms.length ms) :
    clK.K w ⟨name, sup, [], fs, ms⟩ [.string name, .string sup, .slice none 0 0, .slice A fs.length c, .slice B ms.length d] :=
  ⟨[.string name], _, rfl, rfl, [.string sup], _, rfl, rfl, [.slice none 0 0], _, rfl, ⟨none, 0, rfl, Nat.le_refl _, row_none _ w⟩, [.slice A fs.length c], [.slice B ms.length d], rfl, ⟨A, c, rfl, hc, hf⟩, ⟨B, d, rfl, hd, hm⟩⟩
theorem mtK_ret {w : World} (nm : Nm) {A : Option Addr} {c : Nat} (hc : 1 ≤ c) (h : inK.C w A 1 [⟨33, 0⟩]) : mtK.K w (mtRet nm) [.string nm, .slice none 0 0, .int .i64 0, .string nil, .int .i64 1, .int .i64 0, .slice A 1 c, .slice none 0 0] :=
  ⟨[.string nm], _, rfl, rfl, [.slice none 0 0], _, rfl, ⟨none, 0, rfl, Nat.le_refl _, row_none _ w⟩, [.int .i64 0, .string nil], _, rfl, tyK_cs w ⟨0, nil⟩, [.int .i64 1], _, rfl, rfl, [.int .i64 0], _, rfl, rfl, [.slice A 1 c], [.slice none 0 0], rfl, ⟨A, c, rfl, hc, h⟩, ⟨none, 0, rfl, Nat.le_refl _, row_none _ w⟩⟩
set_option maxRecDepth 10000 in
set_option maxHeartbeats 400000 in
theorem ret_any (nm : Nm) (w : World) : Calls Try.prog 35 #[.string nm] w fun e w' => ∃ g, e = .returned (.agg #[.string nm, .slice none 0 0, .int .i64 0, .string nil, .int .i64 1, .int .i64 0, .slice (some ⟨g, 0, none⟩) 1 1, .slice none 0 0]) ∧ w.heap.size ≤ g ∧ w'.heap[g]? = some (.cells #[.int .i64 33, .int .i64 0] 26 (0, 0)) ∧ Below w.heap.size w w' := by
  go_enter Try.func35, Try.ntmps35
  go_wp2
  refine bodyPost_ret (results_cell_row rfl _ _ _ _ _ _ _ rfl (blk_alloc (blk_new w _) _) Try.underlying66 rfl (by kernel_rfl)) rfl ?_
  exact ⟨_, rfl, Nat.le_succ _, blk_second w _ _, bthen (balloc _ _) (balloc _ _)⟩
set_option maxRecDepth 10000 in
set_option maxHeartbeats 400000 in
theorem mainClass_any (w : World) : Calls Try.prog 28 #[] w fun e w' => ∃ cs, e = .returned (.agg cs.toArray) ∧ clK.K w' clM7 cs ∧ Below w.heap.size w w' := by
  go_enter Try.func28, Try.ntmps28
  go_wp2
  refine bodyPost_ret (results_cell_row rfl _ _ _ _ _ _ _ rfl (blk_alloc (blk_alloc (blk_alloc (blk_new w _) _) _) _) Try.underlying72 rfl (by kernel_rfl)) rfl ?_
  obtain ⟨W, hW⟩ : ∃ W, (((w.alloc (.cells #[.string nMain, .string nil, .slice none 0 0, .slice (some ⟨w.heap.size + 1, 0, none⟩) 2 2, .slice (some ⟨w.heap.size + 1 + 1 + 1, 0, none⟩) 1 1] 72)).alloc (.cells (fdCs ⟨⟨#[99]⟩, ⟨2, nil⟩, false⟩ ++ fdCs ⟨⟨#[110]⟩, ⟨1, nil⟩, false⟩).toArray 50)).alloc (.cells #[.int .i64 33, .int .i64 0] 26)).alloc (.cells #[.string nmain, .slice none 0 0, .int .i64 0, .string nil, .int .i64 1, .int .i64 0, .slice (some ⟨w.heap.size + 1 + 1, 0, none⟩) 1 1, .slice none 0 0] 66) = W := ⟨_, rfl⟩
  have hf : W.heap[w.heap.size + 1]? = some (.cells (fdCs ⟨⟨#[99]⟩, ⟨2, nil⟩, false⟩ ++ fdCs ⟨⟨#[110]⟩, ⟨1, nil⟩, false⟩).toArray 50 (0, 0)) := by rw [← hW]; exact blk_alloc (blk_alloc (blk_second w _ _) _) _
  have hi : W.heap[w.heap.size + 1 + 1]? = some (.cells ([.int .i64 33, .int .i64 0] : List Value).toArray 26 (0, 0)) := by
    rw [← hW]
    refine blk_alloc ?_ _
    have := blk_second (w.alloc (.cells #[.string nMain, .string nil, .slice none 0 0, .slice (some ⟨w.heap.size + 1, 0, none⟩) 2 2, .slice (some ⟨w.heap.size + 1 + 1 + 1, 0, none⟩) 1 1] 72)) (.cells (fdCs ⟨⟨#[99]⟩, ⟨2, nil⟩, false⟩ ++ fdCs ⟨⟨#[110]⟩, ⟨1, nil⟩, false⟩).toArray 50) (.cells #[.int .i64 33, .int .i64 0] 26)
    rw [World.size_alloc] at this
    exact this
  have hm : W.heap[w.heap.size + 1 + 1 + 1]? = some (.cells ([.string nmain, .slice none 0 0, .int .i64 0, .string nil, .int .i64 1, .int .i64 0, .slice (some ⟨w.heap.size + 1 + 1, 0, none⟩) 1 1, .slice none 0 0] : List Value).toArray 66 (0, 0)) := by
    have := blk_new (((w.alloc (.cells #[.string nMain, .string nil, .slice none 0 0, .slice (some ⟨w.heap.size + 1, 0, none⟩) 2 2, .slice (some ⟨w.heap.size + 1 + 1 + 1, 0, none⟩) 1 1] 72)).alloc (.cells (fdCs ⟨⟨#[99]⟩, ⟨2, nil⟩, false⟩ ++ fdCs ⟨⟨#[110]⟩, ⟨1, nil⟩, false⟩).toArray 50)).alloc (.cells #[.int .i64 33, .int .i64 0] 26)) (.cells #[.string nmain, .slice none 0 0, .int .i64 0, .string nil, .int .i64 1, .int .i64 0, .slice (some ⟨w.heap.size + 1 + 1, 0, none⟩) 1 1, .slice none 0 0] 66)
    rw [hW, World.size_alloc, World.size_alloc, World.size_alloc] at this
    exact this
  have hb : Below w.heap.size w W := by rw [← hW]; exact bthen (bthen (bthen (balloc _ _) (balloc _ _)) (balloc _ _)) (balloc _ _)
  have hK := cl7_mk nMain nil fdM [mtRet nmain] (Nat.le_refl 2) (row_two fdK hf (fdK_cs W _) (fdK_cs W _)) (Nat.le_refl 1) (row_one mtK hm (mtK_ret nmain (Nat.le_refl 1) (row_one inK hi (inK_cs W ⟨33, 0⟩))))
  subst hW
  exact ⟨_, rfl, hK, hb⟩
end Go.Proofs.Ytpdjkclacbgneaa
namespace Go.Proofs.Ytpdjkclacbgneaa
open Go.RowKit Go.Shelf Go.Proofs.YtpdjkclacbgneaaW.PrintWords Go.Proofs.Ytpdjkclacbgneaa.Pl

theorem layout_any (pb : Nat) (p : Pg) (name : Nm) (w : World) (H : ProgIs w pb p) (h8 : ∀ n, (clsOf p n).fields.length ≤ 8) (hm8 : ∀ n, (clsOf p n).methods.length ≤ 8) (hsz : ∀ n m, m ∈ (clsOf p n).methods → m.name.size ≤ 1000) (hhas : Pl.has p.h name = true) :
    Calls Try.prog 21 #[.pointer (some ⟨pb, 0, none⟩), .string name] w fun e w' => ∃ A1 n1 c1 A2 n2 c2 A3 n3 c3, e = .returned (.tuple #[.agg #[.string name, .slice A1 n1 c1, .slice A2 n2 c2, .int .i64 (slots p name).2, .slice A3 n3 c3], .bool true]) ∧ Below w.heap.size w w' := callsIn_wide.1 (layout_in pb p name w H h8 hm8 hsz hhas)
/-- What holds of each class of a program holds of whatever class one asks for. -/
theorem cls_all {P : Cl → Prop} {p : Pg} (h0 : P default) (h : ∀ e, e ∈ p.cs → P e.2) (n : Nm) : P (clsOf p n) := by
  rcases look_mem (default : Cl) p.cs n with h3 | ⟨k, h3⟩
  · unfold clsOf; rw [h3]; exact h0
  · exact h _ h3
def p7 : Pg := (Pl.link [clM7]).2
theorem link7 : (Pl.link [clM7]).1 = 0 := by decide +kernel
theorem link7n : (Pl.link []).1 = 74 := by decide +kernel
theorem small7 : p7.cs.all (fun e => decide (e.2.fields.length ≤ 8) && decide (e.2.methods.length ≤ 8) && e.2.methods.all (fun m => decide (m.name.size ≤ 1000))) = true := by decide +kernel
theorem has7 : Pl.has p7.h nMain = true := by decide +kernel
theorem slots7 : (slots p7 nMain).2 = 3 := by decide +kernel
theorem field7 : fieldOf p7 nMain ⟨#[110]⟩ = (⟨nMain, ⟨⟨#[110]⟩, ⟨1, nil⟩, false⟩, 2⟩, true) := by decide +kernel
theorem num7 : numOf p7 nMain = 2 := by decide +kernel
theorem name7 : nameOf p7 1 = nFault := by decide +kernel
theorem hne7 : 0 < p7.h.length := by decide +kernel
theorem f7 (n : Nm) : (clsOf p7 n).fields.length ≤ 8 := cls_all (P := fun c => c.fields.length ≤ 8) (by decide) (fun e he => by
  have := List.all_eq_true.1 small7 e he
  simp only [Bool.and_eq_true, decide_eq_true_eq] at this
  exact this.1.1) n
theorem m7 (n : Nm) : (clsOf p7 n).methods.length ≤ 8 := cls_all (P := fun c => c.methods.length ≤ 8) (by decide) (fun e he => by
  have := List.all_eq_true.1 small7 e he
  simp only [Bool.and_eq_true, decide_eq_true_eq] at this
  exact this.1.2) n
theorem s7 (n : Nm) : ∀ m, m ∈ (clsOf p7 n).methods → m.name.size ≤ 1000 := cls_all (P := fun c => ∀ m, m ∈ c.methods → m.name.size ≤ 1000) (fun m hm => absurd hm List.not_mem_nil) (fun e he m hm => by
  have := List.all_eq_true.1 small7 e he
  simp only [Bool.and_eq_true, decide_eq_true_eq, List.all_eq_true] at this
  exact this.2 m hm) n
set_option maxRecDepth 100000 in
set_option maxHeartbeats 1000000 in
theorem known7_any (w : World) : Calls Try.prog 17 #[] w fun e w' => e = .returned (.bool true) ∧ Below w.heap.size w w' := by
  go_enter Try.func17, Try.ntmps17
  go_wp2_with fail
  refine (mainClass_any w).mono ?_
  rintro e1 w1 ⟨cs, rfl, hK, hb1⟩
  have hC := row_one clK (blk_new w1 (.cells cs.toArray 72)) (clK.K_below (balloc _ _) hK)
  have LA := Aside0.mk (link_any [clM7] _ 1 _ hC (by decide) (fun ⟨c, hc, x, hx, _⟩ => by
    rw [List.mem_singleton] at hc
    subst hc
    exact absurd hx List.not_mem_nil))
  rw [link7] at LA
  have B1 := Aside0.mk (bthen hb1 (balloc w1 (.cells cs.toArray 72)))
  obtain ⟨D0, e0, D1, e1, D2, e2, rfl, _⟩ := clK_open hK
  clear hK hb1 hC
  go_wp2_with fail
  refine LA.out.mono ?_
  rintro e2 w2 ⟨pp, rfl, hp, _, hb2⟩
  obtain ⟨pb, rfl, hP⟩ := hp trivial
  have B2 := Aside0.mk (bthen B1.out hb2)
  have HP := Aside0.mk hP
  have LB := Aside0.mk (link_any [] none 0 w2 (row_none _ _) (by decide) (fun ⟨c, hc, _⟩ => absurd hc List.not_mem_nil))
  rw [link7n] at LB
  clear hp hb2 hP LA
  go_wp2_with fail
  refine LB.out.mono ?_
  rintro e2 w3 ⟨pp, rfl, _, _, hb3⟩
  have B3 := Aside0.mk (bthen B2.out hb3)
  have HP := Aside0.mk (HP.out.below hb3)
  have LY := Aside0.mk (layout_any pb p7 nMain w3 HP.out f7 m7 s7 has7)
  rw [slots7] at LY
  clear hb3 LB
  go_wp2_with fail
  refine LY.out.mono ?_
  rintro e4 w4 ⟨A1, n1, c1, A2, n2, c2, A3, n3, c3, rfl, hb4⟩
  obtain ⟨W5, hW5⟩ : ∃ W5, w4.alloc (.cells #[.string nMain, .slice A1 n1 c1, .slice A2 n2 c2, .int .i64 3, .slice A3 n3 c3] 59) = W5 := ⟨_, rfl⟩
  have hb5 : Below w4.heap.size w4 W5 := by rw [← hW5]; exact balloc _ _
  have hg5 : W5.heap[w4.heap.size]? = some (.cells #[.string nMain, .slice A1 n1 c1, .slice A2 n2 c2, .int .i64 3, .slice A3 n3 c3] 59 (0, 0)) := by rw [← hW5]; exact blk_new _ _
  have HP := Aside0.mk (HP.out.below (bthen hb4 hb5))
  have B5 := Aside0.mk (bthen B3.out (bthen hb4 hb5))
  have fl := field_any pb p7 nMain ⟨#[110]⟩ W5 HP.out f7
  rw [field7] at fl
  have FL : Aside0 (Calls Try.prog 20 #[.pointer (some ⟨pb, 0, none⟩), .string nMain, .string ⟨#[110]⟩] W5 fun e w' => e = .returned (.tuple #[.agg #[.string nMain, .string ⟨#[110]⟩, .int .i64 1, .string nil, .bool false, .int .i64 2], .bool true]) ∧ Below W5.heap.size W5 w') := ⟨fl⟩
  obtain ⟨gl, hgl⟩ : ∃ gl, w4.heap.size = gl := ⟨_, rfl⟩
  rw [hgl] at hg5
  clear hb4 hb5 LY fl
  go_wp2_with fail
  refine FL.out.mono ?_
  rintro e6 w6 ⟨rfl, hb6⟩
  obtain ⟨W7, hW7⟩ : ∃ W7, w6.alloc (.cells (slCs ⟨nMain, ⟨⟨#[110]⟩, ⟨1, nil⟩, false⟩, 2⟩).toArray 52) = W7 := ⟨_, rfl⟩
  have hb7 : Below w6.heap.size w6 W7 := by rw [← hW7]; exact balloc _ _
  have hg7 : W7.heap[w6.heap.size]? = some (.cells #[.string nMain, .string ⟨#[110]⟩, .int .i64 1, .string nil, .bool false, .int .i64 2] 52 (0, 0)) := by rw [← hW7]; exact blk_new _ _
  have hW7 : w6.alloc (.cells #[.string nMain, .string ⟨#[110]⟩, .int .i64 1, .string nil, .bool false, .int .i64 2] 52) = W7 := hW7
  have HP := Aside0.mk (HP.out.below (bthen hb6 hb7))
  have B7 := Aside0.mk (bthen B5.out (bthen hb6 hb7))
  have y3 : W7.cell? ⟨gl, 3, none⟩ = some (.int .i64 3) := Bx.cell ⟨blk_below hg5 (bthen hb6 hb7)⟩ (j := 3) rfl
  have z5 : W7.cell? ⟨w6.heap.size, 5, none⟩ = some (.int .i64 2) := Bx.cell ⟨hg7⟩ (j := 5) rfl
  have NU := Aside0.mk (number_any pb p7 nMain W7 HP.out hne7)
  rw [num7] at NU
  clear hb6 hb7 hg7 hg5 FL hW5
  go_wp2_with fail
  refine NU.out.mono ?_
  rintro e8 w8 ⟨rfl, hb8⟩
  have B8 := Aside0.mk (bthen B7.out hb8)
  have NM := Aside0.mk (name_any pb p7 1 w8 (HP.out.below hb8) hne7)
  rw [name7] at NM
  clear hb8 NU
  go_wp2_with fail
  refine NM.out.mono ?_
  rintro e9 w9 ⟨rfl, hb9⟩
  have B9 := Aside0.mk (bthen B8.out hb9)
  have hst : (nFault.toList == [70, 97, 117, 108, 116]) = true := by decide +kernel
  go_wp2
  go_ret
  exact ⟨rfl, B9.out⟩
end Go.Proofs.Ytpdjkclacbgneaa
namespace Go.Proofs.Ytpdjkclacbgneaa
open Go.RowKit Go.Shelf Go.Proofs.YtpdjkclacbgneaaW.PrintWords Go.Proofs.Ytpdjkclacbgneaa.Pl

abbrev CT : TypeId := 72
abbrev FdT : TypeId := 50
abbrev MT : TypeId := 66
abbrev NT : TypeId := 26
theorem tyK_M (w : World) (base : Nat) (ok : Nat → Prop) (t : Ty) : tyK.M w base ok t (tyCs t) := ⟨[.int .i64 t.kind], [.string t.cls], rfl, rfl, rfl⟩
theorem inK_M (w : World) (base : Nat) (ok : Nat → Prop) (t : In) : inK.M w base ok t (inCs t) := ⟨[.int .i64 t.op], [.int .i64 t.a], rfl, rfl, rfl⟩
theorem fdK_M (w : World) (base : Nat) (ok : Nat → Prop) (f : Pl.Fd) : fdK.M w base ok f (fdCs f) := ⟨[.string f.name], _, rfl, rfl, [.int .i64 f.ty.kind, .string f.ty.cls], [.bool f.vol], rfl, tyK_M w base ok f.ty, rfl⟩
/-- A row of one element, of one's own. -/
theorem rowR_one {α : Type} (d : Kd α) {w : World} {g e base : Nat} {ok : Nat → Prop} {x : α} {cs : List Value} (h : w.heap[g]? = some (.cells cs.toArray e (0, 0))) (hb : base ≤ g) (hg : ok g) (hk : d.M w base (fun k => ok k ∧ some k ≠ some g) x cs) : d.R e w base ok (.slice (some ⟨g, 0, none⟩) 1 1) [x] := by
  have hl : cs.length = d.sz := d.K_len (d.K_of_M hk)
  refine ⟨fun k hk => by cases hk; exact hg, cs, ⟨by simpa using hl, .inr ⟨g, 1, cs.toArray, rfl, hb, h, Nat.le_refl _, by unfold maxLen; omega, by simp [hl], by simp [← hl]⟩⟩, ⟨by simpa using hl, fun j p hj => ?_⟩⟩
  have hj0 : j = 0 := by
    have := (List.getElem?_eq_some_iff.1 hj).1
    simpa using this
  subst hj0
  cases hj
  rw [Nat.zero_mul, List.drop_zero, List.take_of_length_le (by omega)]
  exact hk
theorem rowR_two {α : Type} (d : Kd α) {w : World} {g e base : Nat} {ok : Nat → Prop} {x y : α} {c0 c1 : List Value} (h : w.heap[g]? = some (.cells (c0 ++ c1).toArray e (0, 0))) (hb : base ≤ g) (hg : ok g) (k0 : d.M w base (fun k => ok k ∧ some k ≠ some g) x c0) (k1 : d.M w base (fun k => ok k ∧ some k ≠ some g) y c1) : d.R e w base ok (.slice (some ⟨g, 0, none⟩) 2 2) [x, y] := by
  have hl : c0.length = d.sz := d.K_len (d.K_of_M k0)
  have hl1 : c1.length = d.sz := d.K_len (d.K_of_M k1)
  have hl2 : (c0 ++ c1).length = 2 * d.sz := by rw [List.length_append]; omega
  refine ⟨fun k hk => by cases hk; exact hg, c0 ++ c1, ⟨hl2, .inr ⟨g, 2, (c0 ++ c1).toArray, rfl, hb, h, Nat.le_refl _, by unfold maxLen; omega, by simpa using hl2, by show List.take (2 * d.sz) (c0 ++ c1) = c0 ++ c1; rw [← hl2, List.take_length]⟩⟩, ⟨hl2, fun j p hj => ?_⟩⟩
  have hj2 : j < 2 := (List.getElem?_eq_some_iff.1 hj).1
  rcases (by omega : j = 0 ∨ j = 1) with rfl | rfl
  · cases hj
    rw [Nat.zero_mul, List.drop_zero, List.take_append_of_le_length (by omega), List.take_of_length_le (by omega)]
    exact k0
  · cases hj
    rw [Nat.one_mul, List.drop_append_of_le_length (by omega), List.drop_of_length_le (by omega), List.nil_append, List.take_of_length_le (by omega)]
    exact k1
theorem mtK_M {w : World} {base : Nat} {ok : Nat → Prop} (nm : Nm) {v : Value} (h : inK.R NT w base ok v [⟨33, 0⟩]) : mtK.M w base ok (mtRet nm) [.string nm, .slice none 0 0, .int .i64 0, .string nil, .int .i64 1, .int .i64 0, v, .slice none 0 0] :=
  ⟨[.string nm], _, rfl, rfl, [.slice none 0 0], _, rfl, ⟨_, rfl, Kd.R_nil _ _ _ _ _⟩, [.int .i64 0, .string nil], _, rfl, tyK_M w base ok ⟨0, nil⟩, [.int .i64 1], _, rfl, rfl, [.int .i64 0], _, rfl, rfl, [v], [.slice none 0 0], rfl, ⟨_, rfl, h⟩, ⟨_, rfl, Kd.R_nil _ _ _ _ _⟩⟩
theorem clK_M {w : World} {base : Nat} {ok : Nat → Prop} (name sup : Nm) (fs : List Pl.Fd) (ms : List Mt) {v u : Value} (hf : fdK.R FdT w base ok v fs) (hm : mtK.R MT w base ok u ms) :
    clK.M w base ok ⟨name, sup, [], fs, ms⟩ [.string name, .string sup, .slice none 0 0, v, u] :=
  ⟨[.string name], _, rfl, rfl, [.string sup], _, rfl, rfl, [.slice none 0 0], _, rfl, ⟨_, rfl, Kd.R_nil _ _ _ _ _⟩, [v], [u], rfl, ⟨_, rfl, hf⟩, ⟨_, rfl, hm⟩⟩
theorem clInfo : (Try.prog.info? CT).map (fun i => (i.zero, i.size, decide (i.bytes ≤ 200))) = some (some (.agg #[.string ⟨#[]⟩, .string ⟨#[]⟩, .slice none 0 0, .slice none 0 0, .slice none 0 0]), 5, true) := by kernel_rfl
/-- A class appended to a row of one's own. -/
theorem app_cl {base : Nat} {W : World} {v : Value} {l : List Cl} {p : Cl} {cs : List Value} (h : clK.R CT W base (fun _ => True) v l) (hp : clK.M W base (fun k => some k ≠ v.ownBlock) p cs) (hB : base ≤ W.heap.size) (hl : l.length ≤ 1000) :
    ∃ v1 w1, (Builtin.append_ #[45, 45] 45 #[v, .slice (some ⟨W.heap.size, 0, none⟩) 1 1]).run Try.prog (W.alloc (.cells cs.toArray CT)) = .ok v1 w1 ∧ clK.R CT w1 base (fun _ => True) v1 (l ++ [p]) ∧ W.grownBy w1 v.ownBlock := by
  obtain ⟨i0, hi, hzz⟩ := Option.map_eq_some_iff.1 clInfo
  simp only [Prod.mk.injEq, decide_eq_true_eq] at hzz
  obtain ⟨hz0, hz1, hz2⟩ := hzz
  have hb := balloc W (.cells cs.toArray CT)
  have hst : Try.prog.underlying 45 = some (.slice CT) := Try.underlying45
  obtain ⟨h0, inner, ho, hr⟩ := h
  have hlen : cs.length = 5 := clK.K_len (clK.K_of_M hp)
  have hby : (l.length + 1) * i0.bytes ≤ 140737488355328 := by
    have h1 : (l.length + 1) * i0.bytes ≤ 1001 * 200 := Nat.mul_le_mul (by omega) hz2
    omega
  obtain ⟨v1, w1, hrun, h2, hg, _, hat⟩ := run_append_own_at (P := Try.prog) (w := W.alloc (.cells cs.toArray CT)) base 45 45 CT i0 (.agg #[.string ⟨#[]⟩, .string ⟨#[]⟩, .slice none 0 0, .slice none 0 0, .slice none 0 0]) 5 i0.bytes hst hi hz0 hz1 rfl rfl (by decide) v l.length inner (pw_own_below ho hb) ⟨W.heap.size, 0, none⟩ 1 1 cs (by simpa using hlen)
    (World.news_of_block (blk_new W _)) (clK.K_one (clK.K_of_M hp)) (by simp only [maxLen]; omega) hby (Nat.le_trans hB hb.size)
  have hgr := World.grownBy.trans (World.grownBy_alloc W (.cells cs.toArray CT) v.ownBlock) hg
  refine ⟨v1, w1, hrun, Kd.R_appended h0 hr hp (fun k hk => ⟨trivial, hk⟩) (fun _ _ => trivial) h2 hgr ?_, hgr⟩
  rcases hat with hat | hat
  · exact .inl hat
  · exact .inr ⟨_, hat, hb.size⟩
end Go.Proofs.Ytpdjkclacbgneaa
namespace Go.Proofs.Ytpdjkclacbgneaa
open Go.RowKit Go.Shelf Go.Proofs.YtpdjkclacbgneaaW.PrintWords Go.Proofs.Ytpdjkclacbgneaa.Pl

/-- The letter of a class along the chain. -/
def letC (i : Nat) : Nm := ⟨#[(65 + i).toUInt8]⟩
def fldC (i : Nat) : Nm := ⟨#[102, (65 + i).toUInt8]⟩
/-- The class i of the chain; kind x; with the method m or not. -/
def clC7 (i : Nat) (x : Int) (b : Bool) : Cl := ⟨letC i, if i = 0 then nil else letC (i - 1), [], [⟨fldC i, ⟨x % 3 + 1, nil⟩, false⟩], if b then [mtRet ⟨#[109]⟩] else []⟩
/-- chain's classes: kinds l; has h. -/
def chainOf (h : List Bool) : Nat → List Int → List Cl
  | _, [] => []
  | i, x :: r => clC7 i x (h.getD i false) :: chainOf h (i + 1) r
theorem chainOf_add (h : List Bool) : ∀ (l : List Int) (i : Nat) (x : Int), chainOf h i (l ++ [x]) = chainOf h i l ++ [clC7 (i + l.length) x (h.getD (i + l.length) false)]
  | [], i, x => rfl
  | y :: r, i, x => by
    rw [List.cons_append, chainOf, chainOf_add h r (i + 1) x, chainOf, List.cons_append, List.length_cons, show i + 1 + r.length = i + (r.length + 1) by omega]
theorem chainOf_len (h : List Bool) : ∀ (l : List Int) (i : Nat), (chainOf h i l).length = l.length
  | [], _ => rfl
  | x :: r, i => by rw [chainOf, List.length_cons, chainOf_len h r, List.length_cons]
set_option maxRecDepth 100000 in
set_option maxHeartbeats 2000000 in
theorem mainM_any (w : World) : Calls Try.prog 28 #[] w fun e w' => ∃ v u, e = .returned (.agg #[.string nMain, .string nil, .slice none 0 0, v, u]) ∧ fdK.R FdT w' w.heap.size (fun _ => True) v fdM ∧ mtK.R MT w' w.heap.size (fun _ => True) u [mtRet nmain] ∧ Below w.heap.size w w' := by
  go_enter Try.func28, Try.ntmps28
  go_wp2
  refine bodyPost_ret (results_cell_row rfl _ _ _ _ _ _ _ rfl (blk_alloc (blk_alloc (blk_alloc (blk_new w _) _) _) _) Try.underlying72 rfl (by kernel_rfl)) rfl ?_
  obtain ⟨W, hW⟩ : ∃ W, (((w.alloc (.cells #[.string nMain, .string nil, .slice none 0 0, .slice (some ⟨w.heap.size + 1, 0, none⟩) 2 2, .slice (some ⟨w.heap.size + 1 + 1 + 1, 0, none⟩) 1 1] CT)).alloc (.cells (fdCs ⟨⟨#[99]⟩, ⟨2, nil⟩, false⟩ ++ fdCs ⟨⟨#[110]⟩, ⟨1, nil⟩, false⟩).toArray FdT)).alloc (.cells #[.int .i64 33, .int .i64 0] NT)).alloc (.cells #[.string nmain, .slice none 0 0, .int .i64 0, .string nil, .int .i64 1, .int .i64 0, .slice (some ⟨w.heap.size + 1 + 1, 0, none⟩) 1 1, .slice none 0 0] MT) = W := ⟨_, rfl⟩
  have hf : W.heap[w.heap.size + 1]? = some (.cells (fdCs ⟨⟨#[99]⟩, ⟨2, nil⟩, false⟩ ++ fdCs ⟨⟨#[110]⟩, ⟨1, nil⟩, false⟩).toArray FdT (0, 0)) := by rw [← hW]; exact blk_alloc (blk_alloc (blk_second w _ _) _) _
  have hi : W.heap[w.heap.size + 1 + 1]? = some (.cells ([.int .i64 33, .int .i64 0] : List Value).toArray NT (0, 0)) := by
    rw [← hW]
    refine blk_alloc ?_ _
    have := blk_second (w.alloc (.cells #[.string nMain, .string nil, .slice none 0 0, .slice (some ⟨w.heap.size + 1, 0, none⟩) 2 2, .slice (some ⟨w.heap.size + 1 + 1 + 1, 0, none⟩) 1 1] CT)) (.cells (fdCs ⟨⟨#[99]⟩, ⟨2, nil⟩, false⟩ ++ fdCs ⟨⟨#[110]⟩, ⟨1, nil⟩, false⟩).toArray FdT) (.cells #[.int .i64 33, .int .i64 0] NT)
    rw [World.size_alloc] at this
    exact this
  have hm : W.heap[w.heap.size + 1 + 1 + 1]? = some (.cells ([.string nmain, .slice none 0 0, .int .i64 0, .string nil, .int .i64 1, .int .i64 0, .slice (some ⟨w.heap.size + 1 + 1, 0, none⟩) 1 1, .slice none 0 0] : List Value).toArray MT (0, 0)) := by
    have := blk_new (((w.alloc (.cells #[.string nMain, .string nil, .slice none 0 0, .slice (some ⟨w.heap.size + 1, 0, none⟩) 2 2, .slice (some ⟨w.heap.size + 1 + 1 + 1, 0, none⟩) 1 1] CT)).alloc (.cells (fdCs ⟨⟨#[99]⟩, ⟨2, nil⟩, false⟩ ++ fdCs ⟨⟨#[110]⟩, ⟨1, nil⟩, false⟩).toArray FdT)).alloc (.cells #[.int .i64 33, .int .i64 0] NT)) (.cells #[.string nmain, .slice none 0 0, .int .i64 0, .string nil, .int .i64 1, .int .i64 0, .slice (some ⟨w.heap.size + 1 + 1, 0, none⟩) 1 1, .slice none 0 0] MT)
    rw [hW, World.size_alloc, World.size_alloc, World.size_alloc] at this
    exact this
  have hb : Below w.heap.size w W := by rw [← hW]; exact bthen (bthen (bthen (balloc _ _) (balloc _ _)) (balloc _ _)) (balloc _ _)
  have hF : fdK.R FdT W w.heap.size (fun _ => True) (.slice (some ⟨w.heap.size + 1, 0, none⟩) 2 2) fdM := rowR_two fdK hf (Nat.le_succ _) trivial (fdK_M _ _ _ _) (fdK_M _ _ _ _)
  have hM : mtK.R MT W w.heap.size (fun _ => True) (.slice (some ⟨w.heap.size + 1 + 1 + 1, 0, none⟩) 1 1) [mtRet nmain] := rowR_one mtK hm (by omega) trivial (mtK_M nmain (rowR_one inK hi (by omega) ⟨trivial, fun e => by injection e with e; omega⟩ (inK_M _ _ _ ⟨33, 0⟩)))
  subst hW
  exact ⟨_, _, rfl, hF, hM, hb⟩
theorem u8_at7 {w : World} {A : Option Addr} {n : Nat} {l : List Int} (h : (Kd.int .u8).C w A n l) {k : Nat} {x : Int} (hk : l[k]? = some x) : ∃ ad, A = some ad ∧ w.cell? (ad.add k) = some (.int .u8 x) := by
  have hl := (List.getElem?_eq_some_iff.1 hk).1
  obtain ⟨ad, e, hc⟩ := Kd.at_int h (k : Int) (by omega) (by have := h.1; omega)
  refine ⟨ad, e, ?_⟩
  rw [Int.toNat_natCast, rd, Int.toNat_natCast, List.getD_eq_getElem?_getD, hk] at hc
  exact hc
theorem ext7 : ∀ k : Nat, k < 12 → (ByteArray.mk #[65, 66, 67, 68, 69, 70, 71, 72, 73, 74, 75, 76, 77, 78]).extract k (k + 1) = letC k := by
  intro k hk
  rcases (by omega : k = 0 ∨ k = 1 ∨ k = 2 ∨ k = 3 ∨ k = 4 ∨ k = 5 ∨ k = 6 ∨ k = 7 ∨ k = 8 ∨ k = 9 ∨ k = 10 ∨ k = 11) with rfl | rfl | rfl | rfl | rfl | rfl | rfl | rfl | rfl | rfl | rfl | rfl <;> decide +kernel
theorem fld7 : ∀ k : Nat, k < 12 → (ByteArray.mk #[102]) ++ letC k = fldC k := by
  intro k hk
  rcases (by omega : k = 0 ∨ k = 1 ∨ k = 2 ∨ k = 3 ∨ k = 4 ∨ k = 5 ∨ k = 6 ∨ k = 7 ∨ k = 8 ∨ k = 9 ∨ k = 10 ∨ k = 11) with rfl | rfl | rfl | rfl | rfl | rfl | rfl | rfl | rfl | rfl | rfl | rfl <;> decide +kernel
theorem size3 (w : World) (a b c : Obj) : (((w.alloc a).alloc b).alloc c).heap.size = w.heap.size + 1 + 1 + 1 := by rw [World.size_alloc, World.size_alloc, World.size_alloc]
set_option maxRecDepth 100000 in
set_option maxHeartbeats 4000000 in
theorem chain_any (l : List Int) (h : List Bool) (A B : Option Addr) (c d : Nat) (w : World) (hl : (Kd.int .u8).C w A l.length l) (hwf : ∀ n ∈ l, (Lit.int .u8 n).wf = true) (hh : Kd.bool.C w B h.length h) (h14 : l.length ≤ 12) :
    Calls Try.prog 19 #[.slice A l.length c, .slice B h.length d] w fun e w' => ∃ v, e = .returned v ∧ clK.R CT w' w.heap.size (fun _ => True) v (clM7 :: chainOf h 0 l) ∧ Below w.heap.size w w' := by
  have HA := Aside0.mk hl
  have HB := Aside0.mk hh
  have HWF := Aside0.mk hwf
  obtain ⟨n, hn⟩ : ∃ n, l.length = n := ⟨_, rfl⟩
  obtain ⟨m, hm⟩ : ∃ m, h.length = m := ⟨_, rfl⟩
  rw [hn] at HA h14 ⊢
  rw [hm] at HB ⊢
  have hmax := HA.out.2.1
  have hmaxb := HB.out.2.1
  clear hl hh hwf
  go_enter Try.func19, Try.ntmps19
  go_wp2_with fail
  refine (mainM_any w).mono ?_
  rintro e1 w1 ⟨v, u, rfl, hv, hu, hb1⟩
  obtain ⟨A1, c1, rfl⟩ := Kd.R_slice hv
  obtain ⟨A2, c2, rfl⟩ := Kd.R_slice hu
  have hR : clK.R CT (w1.alloc (.cells #[.string nMain, .string nil, .slice none 0 0, .slice A1 2 c1, .slice A2 1 c2] CT)) w.heap.size (fun _ => True) (.slice (some ⟨w1.heap.size, 0, none⟩) 1 1) [clM7] := by
    have hvl : ∀ k, k < (w1.alloc (.cells #[.string nMain, .string nil, .slice none 0 0, .slice A1 2 c1, .slice A2 1 c2] CT)).heap.size → True := fun _ _ => trivial
    refine rowR_one clK (blk_new w1 _) hb1.size trivial (clK_M nMain nil fdM [mtRet nmain] ?_ ?_)
    · exact Kd.R_alloc (Kd.R_mono (Kd.R_bound hv) (fun k hk => ⟨trivial, fun e => by injection e with e; have := hk.2.2.1; omega⟩)) _
    · exact Kd.R_alloc (Kd.R_mono (Kd.R_bound hu) (fun k hk => ⟨trivial, fun e => by injection e with e; have := hk.2.2.1; omega⟩)) _
  have HR := Aside0.mk hR
  have B1 := Aside0.mk (bthen hb1 (balloc w1 (.cells #[.string nMain, .string nil, .slice none 0 0, .slice A1 2 c1, .slice A2 1 c2] CT)))
  clear hR hv hu hb1
  go_wp2_with fail
  go_loopw [5, 6, 7] (fun s5 s6 s7 wr => ∃ kk : Nat, kk ≤ n ∧ s7 = .int .i64 kk ∧ s6 = .string (if kk = 0 then nil else letC (kk - 1)) ∧ Aside0 (clK.R CT wr w.heap.size (fun _ => True) s5 (clM7 :: chainOf h 0 (l.take kk))) ∧ Aside0 (Below w.heap.size w wr)) (fun _ _ s7 _ => n - (intOf s7).toNat)
  case atStart => exact ⟨0, Nat.zero_le _, rfl, rfl, HR, B1⟩
  case round =>
    obtain ⟨kk, hk, rfl, hs6, HO, BW⟩ := hrel
    obtain ⟨up, hup⟩ : ∃ up, (if kk = 0 then nil else letC (kk - 1)) = up := ⟨_, rfl⟩
    rw [hup] at hs6
    subst hs6
    have HUP := Lib.hid hup
    clear hup
    by_cases hlt : kk < n
    · have hltz : (kk : Int) < (n : Int) := by omega
      have hk0 : (0 : Int) ≤ (kk : Int) := by omega
      have hk14 : (kk : Int) + 1 ≤ 14 := by omega
      obtain ⟨x, hx⟩ : ∃ x, l[kk]? = some x := ⟨_, List.getElem?_eq_getElem (by omega)⟩
      obtain ⟨x0, x255⟩ := bounds_u8 (HWF.out x (List.mem_of_getElem? hx))
      obtain ⟨ad, hA, hcell⟩ := u8_at7 HA.out hx
      subst hA
      have hcell : ∀ o, (wr.alloc o).cell? (ad.add kk) = some (.int .u8 x) := fun o => pw_cell_below (bthen BW.out (balloc wr o)) hcell
      have hext : (ByteArray.mk #[65, 66, 67, 68, 69, 70, 71, 72, 73, 74, 75, 76, 77, 78]).extract kk (kk + 1) = letC kk := ext7 kk (by omega)
      have hx3 : x.tmod 3 = x % 3 := Int.tmod_eq_emod_of_nonneg x0
      have hx30 : 0 ≤ x % 3 := Int.emod_nonneg _ (by decide)
      have hx33 : x % 3 < 3 := Int.emod_lt_of_pos _ (by decide)
      have hsz : ¬ 9223372036854775807 < 1 + (letC kk).size := by show ¬ 9223372036854775807 < 1 + 1; decide
      have hfl : (ByteArray.mk #[102]) ++ letC kk = fldC kk := fld7 kk (by omega)
      obtain ⟨k3, hk3⟩ : ∃ k3, x % 3 = k3 := ⟨_, rfl⟩
      rw [hk3] at hx3 hx30 hx33
      obtain ⟨q, hq⟩ : ∃ q, h.getD kk false = q := ⟨_, rfl⟩
      have hadd : chainOf h 0 (l.take (kk + 1)) = chainOf h 0 (l.take kk) ++ [⟨letC kk, up, [], [⟨fldC kk, ⟨k3 + 1, nil⟩, false⟩], if q then [mtRet ⟨#[109]⟩] else []⟩] := by
        have hlen : (l.take kk).length = kk := by rw [List.length_take]; omega
        rw [List.take_add_one, hx]
        show chainOf h 0 (l.take kk ++ [x]) = _
        rw [chainOf_add, Nat.zero_add, hlen, clC7, hq, hk3, HUP.out]
      have HADD := Lib.hid hadd
      have hvlt := Kd.R_lt HO.out
      obtain ⟨A5, c5, hs5⟩ := Kd.R_slice HO.out
      have hlen5 : (clM7 :: chainOf h 0 (l.take kk)).length = kk + 1 := by rw [List.length_cons, chainOf_len, List.length_take]; omega
      have hb3 := bthen (balloc wr (.cells #[.string (letC kk), .string up, .slice none 0 0, .slice (some ⟨wr.heap.size + 1 + 1, 0, none⟩) 1 1, .slice none 0 0] CT)) (bthen (balloc _ (.cells #[.int .i64 (k3 + 1), .string ⟨#[]⟩] 48)) (balloc _ (.cells #[.string (fldC kk), .int .i64 (k3 + 1), .string ⟨#[]⟩, .bool false] FdT)))
      have hf3 := blk_new ((wr.alloc (.cells #[.string (letC kk), .string up, .slice none 0 0, .slice (some ⟨wr.heap.size + 1 + 1, 0, none⟩) 1 1, .slice none 0 0] CT)).alloc (.cells #[.int .i64 (k3 + 1), .string ⟨#[]⟩] 48)) (.cells #[.string (fldC kk), .int .i64 (k3 + 1), .string ⟨#[]⟩, .bool false] FdT)
      rw [World.size_alloc, World.size_alloc] at hf3
      have hw5 : w.heap.size ≤ wr.heap.size := BW.out.size
      have hbool : ((kk : Int) < (m : Int) ∧ ∃ bd, B = some bd ∧ ∀ W', Below w.heap.size w W' → W'.cell? (bd.add kk) = some (.bool q)) ∨ (¬ (kk : Int) < (m : Int) ∧ q = false) := by
        by_cases hkm : kk < m
        · left
          obtain ⟨bd, e, hc⟩ := Kd.at_bool HB.out (kk : Int) (by omega) (by omega)
          refine ⟨by omega, bd, e, fun W' hW => ?_⟩
          rw [Int.toNat_natCast, rdOf, Int.toNat_natCast, hq] at hc
          exact pw_cell_below hW hc
        · right
          refine ⟨by omega, ?_⟩
          rw [← hq, List.getD_eq_getElem?_getD, List.getElem?_eq_none (by omega)]
          rfl
      cases q
      · have hM : clK.M (((wr.alloc (.cells #[.string (letC kk), .string up, .slice none 0 0, .slice (some ⟨wr.heap.size + 1 + 1, 0, none⟩) 1 1, .slice none 0 0] CT)).alloc (.cells #[.int .i64 (k3 + 1), .string ⟨#[]⟩] 48)).alloc (.cells #[.string (fldC kk), .int .i64 (k3 + 1), .string ⟨#[]⟩, .bool false] FdT)) w.heap.size (fun k => some k ≠ u5.ownBlock) ⟨letC kk, up, [], [⟨fldC kk, ⟨k3 + 1, nil⟩, false⟩], []⟩ [.string (letC kk), .string up, .slice none 0 0, .slice (some ⟨wr.heap.size + 1 + 1, 0, none⟩) 1 1, .slice none 0 0] := by
          refine clK_M (letC kk) up _ _ (rowR_one fdK (cs := fdCs ⟨fldC kk, ⟨k3 + 1, nil⟩, false⟩) hf3 (by omega) (fun e => ?_) (fdK_M _ _ _ _)) (Kd.R_nil _ _ _ _ _)
          have := hvlt _ e.symm
          omega
        obtain ⟨v1, w9, E1, o9, g9⟩ := app_cl (Kd.R_below HO.out hb3) hM (Nat.le_trans hw5 hb3.size) (by rw [hlen5]; omega)
        have B9 := Aside0.mk (pw_below_grown (bthen BW.out hb3) _ (Nat.le_trans hw5 hb3.size) g9 (fun k e => Kd.R_base HO.out k e))
        have HO9 : Aside0 (clK.R CT w9 w.heap.size (fun _ => True) v1 (clM7 :: chainOf h 0 (l.take (kk + 1)))) := ⟨by rw [HADD.out]; exact o9⟩
        have hUP2 : Hid ((if kk + 1 = 0 then nil else letC (kk + 1 - 1)) = letC kk) := Lib.hid (by simp)
        rw [size3] at E1
        rw [hlen5] at hs5
        subst hs5
        have E1 : (Builtin.append_ #[45, 45] 45 #[_, .slice (some ⟨wr.heap.size + 1 + 1 + 1, 0, none⟩) 1 1]).run Try.prog ((((wr.alloc (.cells #[.string (letC kk), .string up, .slice none 0 0, .slice (some ⟨wr.heap.size + 1 + 1, 0, none⟩) 1 1, .slice none 0 0] CT)).alloc (.cells #[.int .i64 (k3 + 1), .string ⟨#[]⟩] 48)).alloc (.cells #[.string (fldC kk), .int .i64 (k3 + 1), .string ⟨#[]⟩, .bool false] FdT)).alloc (.cells #[.string (letC kk), .string up, .slice none 0 0, .slice (some ⟨wr.heap.size + 1 + 1, 0, none⟩) 1 1, .slice none 0 0] CT)) = .ok v1 w9 := E1
        have hbw := bthen BW.out hb3
        clear hM o9 g9 hb3 hf3 hadd hx HO
        rcases hbool with ⟨hkm, bd, rfl, hbc⟩ | ⟨hkm, _⟩
        · have hbq := hbc _ hbw
          clear hbc hbw
          go_wp2_with (at_builtin; refine wpList_append_E rfl _ _ _ rfl rfl rfl E1 ?_)
          clear E1
          go_wp2
          go_roundw
          case rel => exact ⟨kk + 1, by omega, by go_num, by rw [hUP2.out], HO9, B9⟩
          case measure => simp [intOf]; omega
        · go_wp2_with (at_builtin; refine wpList_append_E rfl _ _ _ rfl rfl rfl E1 ?_)
          clear E1
          go_wp2
          go_roundw
          case rel => exact ⟨kk + 1, by omega, by go_num, by rw [hUP2.out], HO9, B9⟩
          case measure => simp [intOf]; omega
      · obtain ⟨hkm, bd, rfl, hbc⟩ : (kk : Int) < (m : Int) ∧ ∃ bd, B = some bd ∧ ∀ W', Below w.heap.size w W' → W'.cell? (bd.add kk) = some (.bool true) := by
          rcases hbool with h | ⟨_, h⟩
          · exact h
          · cases h
        have hbq := hbc _ (bthen BW.out hb3)
        have hc3 := blk_alloc (blk_alloc (blk_new wr (.cells #[.string (letC kk), .string up, .slice none 0 0, .slice (some ⟨wr.heap.size + 1 + 1, 0, none⟩) 1 1, .slice none 0 0] CT)) (.cells #[.int .i64 (k3 + 1), .string ⟨#[]⟩] 48)) (.cells #[.string (fldC kk), .int .i64 (k3 + 1), .string ⟨#[]⟩, .bool false] FdT)
        have hs3 := size3 wr (.cells #[.string (letC kk), .string up, .slice none 0 0, .slice (some ⟨wr.heap.size + 1 + 1, 0, none⟩) 1 1, .slice none 0 0] CT) (.cells #[.int .i64 (k3 + 1), .string ⟨#[]⟩] 48) (.cells #[.string (fldC kk), .int .i64 (k3 + 1), .string ⟨#[]⟩, .bool false] FdT)
        clear hbool hbc
        go_wp2_with fail
        refine (ret_any ⟨#[109]⟩ _).mono ?_
        rintro e5 w5 ⟨gi, rfl, hgi, hgi2, hb5⟩
        have hc5 := blk_below hc3 hb5
        have hf5 := blk_below hf3 hb5
        rw [hs3] at hgi
        have hs5' := hb5.size
        rw [hs3] at hs5'
        have hb35 := bthen hb3 hb5
        have hm6 := blk_new w5 (.cells ([.string ⟨#[109]⟩, .slice none 0 0, .int .i64 0, .string nil, .int .i64 1, .int .i64 0, .slice (some ⟨gi, 0, none⟩) 1 1, .slice none 0 0] : List Value).toArray MT)
        obtain ⟨W6, hW6⟩ : ∃ W6, (w5.alloc (.cells #[.string ⟨#[109]⟩, .slice none 0 0, .int .i64 0, .string nil, .int .i64 1, .int .i64 0, .slice (some ⟨gi, 0, none⟩) 1 1, .slice none 0 0] MT)).setCell ⟨wr.heap.size, 4, none⟩ (.slice (some ⟨w5.heap.size, 0, none⟩) 1 1) = W6 := ⟨_, rfl⟩
        have hb5a := bthen hb35 (balloc w5 (.cells #[.string ⟨#[109]⟩, .slice none 0 0, .int .i64 0, .string nil, .int .i64 1, .int .i64 0, .slice (some ⟨gi, 0, none⟩) 1 1, .slice none 0 0] MT))
        have hb6 : Below wr.heap.size wr W6 := by rw [← hW6]; exact hb5a.setCell (p := ⟨wr.heap.size, 4, none⟩) (Nat.le_refl _) _
        have hc6a := blk_alloc hc5 (.cells #[.string ⟨#[109]⟩, .slice none 0 0, .int .i64 0, .string nil, .int .i64 1, .int .i64 0, .slice (some ⟨gi, 0, none⟩) 1 1, .slice none 0 0] MT)
        have z4 := Bx.cell ⟨hc6a⟩ (j := 4) rfl
        have zf := blk_frozen hc6a 4
        have hc6 : W6.heap[wr.heap.size]? = some (.cells #[.string (letC kk), .string up, .slice none 0 0, .slice (some ⟨wr.heap.size + 1 + 1, 0, none⟩) 1 1, .slice (some ⟨w5.heap.size, 0, none⟩) 1 1] CT (0, 0)) := by
          rw [← hW6, heap_set hc6a]
          rfl
        have hne6 : ∀ k : Nat, k ≠ wr.heap.size → ∀ o, (w5.alloc (.cells #[.string ⟨#[109]⟩, .slice none 0 0, .int .i64 0, .string nil, .int .i64 1, .int .i64 0, .slice (some ⟨gi, 0, none⟩) 1 1, .slice none 0 0] MT)).heap[k]? = some o → W6.heap[k]? = some o := fun k hk o ho => by rw [← hW6, Below.heap_setCell _ _ _ _ (by simpa using hk)]; exact ho
        have hf6 := hne6 _ (by omega) _ (blk_alloc hf5 _)
        have hi6 := hne6 _ (by omega) _ (blk_alloc hgi2 _)
        have hm6' := hne6 _ (by omega) _ hm6
        have x0' := Bx.cell ⟨hc6⟩ (j := 0) rfl
        have x1' := Bx.cell ⟨hc6⟩ (j := 1) rfl
        have x2' := Bx.cell ⟨hc6⟩ (j := 2) rfl
        have x3' := Bx.cell ⟨hc6⟩ (j := 3) rfl
        have x4' := Bx.cell ⟨hc6⟩ (j := 4) rfl
        have hown5 : ∀ k, wr.heap.size ≤ k → some k ≠ u5.ownBlock := fun k hk e => by have := hvlt _ e.symm; omega
        have hM : clK.M W6 w.heap.size (fun k => some k ≠ u5.ownBlock) ⟨letC kk, up, [], [⟨fldC kk, ⟨k3 + 1, nil⟩, false⟩], [mtRet ⟨#[109]⟩]⟩ [.string (letC kk), .string up, .slice none 0 0, .slice (some ⟨wr.heap.size + 1 + 1, 0, none⟩) 1 1, .slice (some ⟨w5.heap.size, 0, none⟩) 1 1] :=
          clK_M (letC kk) up _ _ (rowR_one fdK (cs := fdCs ⟨fldC kk, ⟨k3 + 1, nil⟩, false⟩) hf6 (by omega) (hown5 _ (by omega)) (fdK_M _ _ _ _))
            (rowR_one mtK hm6' (by omega) (hown5 _ (by omega)) (mtK_M ⟨#[109]⟩ (rowR_one inK (cs := inCs ⟨33, 0⟩) hi6 (by omega) ⟨hown5 _ (by omega), fun e => by injection e with e; have := blk_lt hgi2; omega⟩ (inK_M _ _ _ ⟨33, 0⟩))))
        obtain ⟨v1, w9, E1, o9, g9⟩ := app_cl (Kd.R_below HO.out hb6) hM (Nat.le_trans hw5 hb6.size) (by rw [hlen5]; omega)
        have B9 := Aside0.mk (pw_below_grown (bthen BW.out hb6) _ (Nat.le_trans hw5 hb6.size) g9 (fun k e => Kd.R_base HO.out k e))
        have HO9 : Aside0 (clK.R CT w9 w.heap.size (fun _ => True) v1 (clM7 :: chainOf h 0 (l.take (kk + 1)))) := ⟨by rw [HADD.out]; exact o9⟩
        have hUP2 : Hid ((if kk + 1 = 0 then nil else letC (kk + 1 - 1)) = letC kk) := Lib.hid (by simp)
        rw [hlen5] at hs5
        subst hs5
        have E1 : (Builtin.append_ #[45, 45] 45 #[_, .slice (some ⟨W6.heap.size, 0, none⟩) 1 1]).run Try.prog (W6.alloc (.cells #[.string (letC kk), .string up, .slice none 0 0, .slice (some ⟨wr.heap.size + 1 + 1, 0, none⟩) 1 1, .slice (some ⟨w5.heap.size, 0, none⟩) 1 1] CT)) = .ok v1 w9 := E1
        clear hbq hcell hM o9 g9 hb3 hf3 hc3 hadd hx HO hne6 hf6 hi6 hm6 hm6' hc6 hc6a hb5a hb6 hb35 hf5 hc5 hb5
        go_wp2_with (at_builtin; refine wpList_append_E rfl _ _ _ rfl rfl rfl E1 ?_)
        clear E1
        go_wp2
        go_roundw
        case rel => exact ⟨kk + 1, by omega, by go_num, by rw [hUP2.out], HO9, B9⟩
        case measure => simp [intOf]; omega
    · have hltz : ¬ (kk : Int) < (n : Int) := by omega
      have hkn : kk = n := by omega
      rw [hkn, List.take_of_length_le (by omega)] at HO
      go_wp2
      go_ret
      exact ⟨_, rfl, HO.out, BW.out⟩
end Go.Proofs.Ytpdjkclacbgneaa
namespace Go.Proofs.Ytpdjkclacbgneaa
open Go.RowKit Go.Shelf Go.Proofs.YtpdjkclacbgneaaW.PrintWords Go.Proofs.Ytpdjkclacbgneaa.Pl

/-- Names and supers along the chain. -/
def nmsC : Nat → Nat → List (Nm × Nm)
  | _, 0 => []
  | i, n + 1 => (letC i, if i = 0 then nil else letC (i - 1)) :: nmsC (i + 1) n
theorem nms_chain (h : List Bool) : ∀ (l : List Int) (i : Nat), (chainOf h i l).map (fun c => (c.name, c.super)) = nmsC i l.length
  | [], _ => rfl
  | x :: r, i => by rw [chainOf, List.map_cons, nms_chain h r, List.length_cons, nmsC]; rfl
def hierC (n : Nat) : Hier := (Pl.hier ((nMain, nil) :: nmsC 0 n)).2
theorem hier_chain : ∀ n, n ≤ 12 → (Pl.hier ((nMain, nil) :: nmsC 0 n)).1 = 0 := by decide +kernel
/-- The ancestors of the class i. -/
def ancC : Nat → List Nm
  | 0 => [letC 0, nObject]
  | i + 1 => letC (i + 1) :: ancC i
theorem anc_chain : ∀ n, n ≤ 12 → ∀ i, i < n → ancestors (hierC n) (letC i) = ancC i := by decide +kernel
theorem anc_main : ∀ n, n ≤ 12 → ancestors (hierC n) nMain = [nMain, nObject] := by decide +kernel
theorem has_chain : ∀ n, n ≤ 12 → ∀ i, i < n → Pl.has (hierC n) (letC i) = true := by decide +kernel
theorem letC_inj : ∀ i, i < 12 → ∀ j, j < 12 → letC i = letC j → i = j := by decide +kernel
theorem fldC_inj : ∀ i, i < 12 → ∀ j, j < 12 → fldC i = fldC j → i = j := by decide +kernel
theorem letC_not : ∀ i, i < 12 → letC i ≠ nMain ∧ letC i ≠ nObject ∧ letC i ≠ nFault := by decide +kernel
theorem check_main : Pl.check clM7 = 0 := by decide +kernel
theorem check_chain : ∀ i, i < 12 → ∀ b : Bool, ∀ k : Fin 3, Pl.check ⟨letC i, if i = 0 then nil else letC (i - 1), [], [⟨fldC i, ⟨(k.val : Int) + 1, nil⟩, false⟩], if b then [mtRet ⟨#[109]⟩] else []⟩ = 0 := by decide +kernel
/-! ### the classes -/
theorem look_put1 {α : Type} (z v : α) : ∀ (l : List (Nm × α)) (n : Nm), Pl.look z (Pl.put l n v) n = v
  | [], n => by simp [Pl.put, Pl.look]
  | (k, u) :: r, n => by
    rw [Pl.put]
    split
    · rename_i h; simp [Pl.look, h]
    · rename_i h; simp only [Pl.look, h, if_false]; exact look_put1 z v r n
theorem look_put2 {α : Type} (z v : α) : ∀ (l : List (Nm × α)) (k n : Nm), k ≠ n → Pl.look z (Pl.put l k v) n = Pl.look z l n
  | [], k, n, h => by simp [Pl.put, Pl.look, h]
  | (k', u) :: r, k, n, h => by
    rw [Pl.put]
    split
    · rename_i h2; subst h2; simp [Pl.look, h]
    · rename_i h2; simp only [Pl.look]; rw [look_put2 z v r k n h]
theorem look_fold (n : Nm) : ∀ (L : List Cl) (cs : List (Nm × Cl)), (∀ c, c ∈ L → c.name ≠ n) → Pl.look default (L.foldl (fun cs c => Pl.put cs c.name c) cs) n = Pl.look default cs n
  | [], _, _ => rfl
  | c :: r, cs, h => by
    rw [List.foldl_cons, look_fold n r _ (fun d hd => h d (List.mem_cons_of_mem _ hd)), look_put2 _ _ _ _ _ (h c List.mem_cons_self)]
theorem mem_chain (h : List Bool) : ∀ (l : List Int) (i : Nat) (c : Cl), c ∈ chainOf h i l → ∃ j x, i ≤ j ∧ j < i + l.length ∧ c = clC7 j x (h.getD j false)
  | [], _, c, hc => absurd hc List.not_mem_nil
  | x :: r, i, c, hc => by
    rw [chainOf] at hc
    rcases List.mem_cons.1 hc with rfl | hc
    · exact ⟨i, x, Nat.le_refl _, by rw [List.length_cons]; omega, rfl⟩
    · obtain ⟨j, y, h1, h2, h3⟩ := mem_chain h r (i + 1) c hc
      exact ⟨j, y, by omega, by rw [List.length_cons]; omega, h3⟩
theorem look_chain (h : List Bool) : ∀ (l : List Int) (i : Nat) (cs : List (Nm × Cl)) (j : Nat), j < l.length → i + l.length ≤ 12 → Pl.look default ((chainOf h i l).foldl (fun cs c => Pl.put cs c.name c) cs) (letC (i + j)) = clC7 (i + j) (l.getD j 0) (h.getD (i + j) false)
  | [], _, _, j, hj, _ => absurd hj (Nat.not_lt_zero _)
  | x :: r, i, cs, 0, _, h12 => by
    rw [chainOf, List.foldl_cons, look_fold _ _ _ (fun c hc => by
      obtain ⟨j, y, h1, h2, rfl⟩ := mem_chain h r (i + 1) c hc
      intro e
      rw [List.length_cons] at h12
      have := letC_inj j (by omega) (i + 0) (by omega) e
      omega)]
    exact look_put1 _ _ _ _
  | x :: r, i, cs, j + 1, hj, h12 => by
    rw [List.length_cons] at hj h12
    have := look_chain h r (i + 1) (Pl.put cs (letC i) (clC7 i x (h.getD i false))) j (by omega) (by omega)
    rw [show i + 1 + j = i + (j + 1) by omega] at this
    exact this
def pgC (h : List Bool) (l : List Int) : Pg := progOf (hierC l.length) (clM7 :: chainOf h 0 l)
theorem cls_chain {h : List Bool} {l : List Int} (hl : l.length ≤ 12) {j : Nat} (hj : j < l.length) : clsOf (pgC h l) (letC j) = clC7 j (l.getD j 0) (h.getD j false) := by
  have := look_chain h l 0 (Pl.put [(nObject, cObject), (nFault, cFault)] nMain clM7) j hj (by omega)
  rw [Nat.zero_add] at this
  exact this
theorem cls_other {h : List Bool} {l : List Int} (hl : l.length ≤ 12) {n : Nm} (hn : ∀ i, i < 12 → letC i ≠ n) : clsOf (pgC h l) n = Pl.look default (Pl.put [(nObject, cObject), (nFault, cFault)] nMain clM7) n :=
  look_fold n (chainOf h 0 l) (Pl.put [(nObject, cObject), (nFault, cFault)] nMain clM7) (fun c hc => by
    obtain ⟨j, y, h1, h2, rfl⟩ := mem_chain h l 0 c hc
    exact hn j (by omega))
theorem cls_main {h : List Bool} {l : List Int} (hl : l.length ≤ 12) : clsOf (pgC h l) nMain = clM7 := by
  rw [cls_other hl (fun i hi => (letC_not i hi).1)]
  rfl
theorem cls_obj {h : List Bool} {l : List Int} (hl : l.length ≤ 12) : clsOf (pgC h l) nObject = cObject := by
  rw [cls_other hl (fun i hi => (letC_not i hi).2.1)]
  rfl
/-! ### who is called -/
def nm_m : Nm := ⟨#[109]⟩
def callC (h : List Bool) : Nat → Nm × Mt × Bool
  | 0 => (nil, default, false)
  | i + 1 => if h.getD i false then (letC i, mtRet nm_m, true) else callC h i
theorem meth_in {h : List Bool} {l : List Int} (hl : l.length ≤ 12) : ∀ i, i < l.length → methIn (pgC h l) nm_m (ancC i) = callC h (i + 1)
  | 0, hi => by
    have hc := cls_chain (h := h) hl hi
    rw [ancC, methIn, hc, callC]
    cases hb : h.getD 0 false
    · rw [clC7]
      simp only [Bool.false_eq_true, if_false, List.find?_nil]
      rw [methIn, cls_obj hl]
      rfl
    · rfl
  | i + 1, hi => by
    have hc := cls_chain (h := h) hl hi
    rw [ancC, methIn, hc, callC]
    cases hb : h.getD (i + 1) false
    · rw [clC7]
      simp only [Bool.false_eq_true, if_false, List.find?_nil]
      exact meth_in hl i (by omega)
    · rfl
theorem meth_chain {h : List Bool} {l : List Int} (hl : l.length ≤ 12) {i : Nat} (hi : i < l.length) : meth (pgC h l) (letC i) nm_m = callC h (i + 1) := by
  unfold meth
  rw [show (pgC h l).h = hierC l.length from rfl, anc_chain _ hl _ hi]
  exact meth_in hl i hi
/-! ### Link's answer -/
theorem anc_obj : ∀ n, n ≤ 12 → ancestors (hierC n) nObject = [nObject] := by decide +kernel
theorem mem_anc : ∀ (i : Nat) (n : Nm), n ∈ ancC i → n = nObject ∨ ∃ k, k ≤ i ∧ n = letC k
  | 0, n, h => by
    rw [ancC] at h
    simp only [List.mem_cons, List.not_mem_nil, or_false] at h
    rcases h with h | h
    · exact .inr ⟨0, Nat.le_refl _, h⟩
    · exact .inl h
  | i + 1, n, h => by
    rw [ancC] at h
    rcases List.mem_cons.1 h with h | h
    · exact .inr ⟨i + 1, Nat.le_refl _, h⟩
    · rcases mem_anc i n h with h | ⟨k, h1, h2⟩
      · exact .inl h
      · exact .inr ⟨k, by omega, h2⟩
theorem call_same (h : List Bool) : ∀ i, (callC h i).2.2 = true → (callC h i).2.1 = mtRet nm_m
  | 0, h0 => by cases h0
  | i + 1, h0 => by
    rw [callC] at h0 ⊢
    split
    · rfl
    · rename_i hb
      rw [if_neg hb] at h0
      exact call_same h i h0
theorem meth_obj {h : List Bool} {l : List Int} (hl : l.length ≤ 12) (nm : Nm) : meth (pgC h l) nObject nm = (nil, default, false) := by
  unfold meth
  rw [show (pgC h l).h = hierC l.length from rfl, anc_obj _ hl, methIn, cls_obj hl]
  rfl
theorem field_obj {h : List Bool} {l : List Int} (hl : l.length ≤ 12) (f : Nm) : hasField (pgC h l) nObject f = false := by
  unfold hasField
  rw [cls_obj hl]
  rfl
theorem members_chain {h : List Bool} {l : List Int} (hl : l.length ≤ 12) {i : Nat} (hi : i < l.length) (x : Int) (b : Bool) : members (pgC h l) (clC7 i x b) = 0 := by
  have hx0 : 0 ≤ x % 3 := Int.emod_nonneg _ (by decide)
  have hx3 : x % 3 < 3 := Int.emod_lt_of_pos _ (by decide)
  obtain ⟨above, hab⟩ : ∃ above, (ancestors (pgC h l).h (letC i)).tail = above := ⟨_, rfl⟩
  have hab2 : above = (ancC i).tail := by rw [← hab, show (pgC h l).h = hierC l.length from rfl, anc_chain _ hl _ hi]
  have hmem : ∀ n, n ∈ above → n = nObject ∨ ∃ k, k < i ∧ n = letC k := fun n hn => by
    rw [hab2] at hn
    cases i with
    | zero => rw [ancC, List.tail_cons, List.mem_singleton] at hn; exact .inl hn
    | succ i =>
      rw [ancC, List.tail_cons] at hn
      rcases mem_anc i n hn with h | ⟨k, h1, h2⟩
      · exact .inl h
      · exact .inr ⟨k, by omega, h2⟩
  have hhead : meth (pgC h l) (above.headD nil) nm_m = if i = 0 then (nil, default, false) else callC h i := by
    rw [hab2]
    cases i with
    | zero => exact meth_obj hl nm_m
    | succ i =>
      have : ((ancC (i + 1)).tail).headD nil = letC i := by
        rw [ancC, List.tail_cons]
        cases i <;> rfl
      rw [this, if_neg (by omega)]
      exact meth_chain hl (by omega)
  have h1 : ((clC7 i x b).fields.all (fun f => there (pgC h l) f.ty) && (clC7 i x b).methods.all (fun m => there (pgC h l) m.ret && m.params.all (there (pgC h l)))) = true := by
    rw [Bool.and_eq_true]
    refine ⟨?_, ?_⟩
    · show ([⟨fldC i, ⟨x % 3 + 1, nil⟩, false⟩] : List Pl.Fd).all _ = true
      rw [List.all_cons, List.all_nil, Bool.and_true]
      unfold there
      rw [Bool.or_eq_true, decide_eq_true_eq]
      left
      show x % 3 + 1 ≠ 4
      omega
    · cases b <;> rfl
  have h2 : (clC7 i x b).fields.any (fun f => above.any fun n => hasField (pgC h l) n f.name) = false := by
    show ([⟨fldC i, ⟨x % 3 + 1, nil⟩, false⟩] : List Pl.Fd).any _ = false
    rw [List.any_cons, List.any_nil, Bool.or_false]
    rw [List.any_eq_false]
    intro n hn
    rcases hmem n hn with rfl | ⟨k, hk, rfl⟩
    · rw [field_obj hl]; decide
    · unfold hasField
      rw [cls_chain hl (by omega)]
      show ¬ (([⟨fldC k, ⟨l.getD k 0 % 3 + 1, nil⟩, false⟩] : List Pl.Fd).any (fun f => decide (f.name = fldC i))) = true
      rw [List.any_cons, List.any_nil, Bool.or_false, decide_eq_true_eq]
      intro e
      have := fldC_inj k (by omega) i (by omega) e
      omega
  have h3 : (clC7 i x b).methods.any (fun m => (meth (pgC h l) (above.headD nil) m.name).2.2 && !sameM m (meth (pgC h l) (above.headD nil) m.name).2.1) = false := by
    cases b
    · rfl
    · show ([mtRet nm_m] : List Mt).any _ = false
      rw [List.any_cons, List.any_nil, Bool.or_false]
      show ((meth (pgC h l) (above.headD nil) nm_m).2.2 && !sameM (mtRet nm_m) (meth (pgC h l) (above.headD nil) nm_m).2.1) = false
      rw [hhead]
      by_cases h0 : i = 0
      · rw [if_pos h0]; rfl
      · rw [if_neg h0]
        cases hc : (callC h i).2.2
        · rfl
        · rw [call_same h i hc]; decide
  unfold members
  rw [if_neg (by rw [h1]; decide)]
  simp only
  rw [show ancestors (pgC h l).h (clC7 i x b).name = ancestors (pgC h l).h (letC i) from rfl, hab, if_neg (by rw [h2]; decide), if_neg (by rw [h3]; decide)]
theorem members_main {h : List Bool} {l : List Int} (hl : l.length ≤ 12) : members (pgC h l) clM7 = 0 := by
  have hab : (ancestors (pgC h l).h nMain).tail = [nObject] := by rw [show (pgC h l).h = hierC l.length from rfl, anc_main _ hl]; rfl
  have h0 : (clM7.fields.all (fun f => there (pgC h l) f.ty) && clM7.methods.all (fun m => there (pgC h l) m.ret && m.params.all (there (pgC h l)))) = true := rfl
  unfold members
  rw [if_neg (by rw [h0]; decide)]
  simp only
  rw [show clM7.name = nMain from rfl, hab]
  rw [if_neg (by
    show ¬ (fdM.any fun f => ([nObject] : List Nm).any fun n => hasField (pgC h l) n f.name) = true
    simp [fdM, field_obj hl]), if_neg (by
    show ¬ (([mtRet nmain] : List Mt).any fun m => (meth (pgC h l) nObject m.name).2.2 && !sameM m (meth (pgC h l) nObject m.name).2.1) = true
    simp [meth_obj hl])]
theorem link_chain {h : List Bool} {l : List Int} (hl : l.length ≤ 12) : Pl.link (clM7 :: chainOf h 0 l) = (0, pgC h l) := by
  have h1 : firstOf check (clM7 :: chainOf h 0 l) = 0 := firstOf_all fun c hc => by
    rcases List.mem_cons.1 hc with rfl | hc
    · exact check_main
    · obtain ⟨j, y, h1, h2, rfl⟩ := mem_chain h l 0 c hc
      have hy0 : 0 ≤ y % 3 := Int.emod_nonneg _ (by decide)
      have hy3 : y % 3 < 3 := Int.emod_lt_of_pos _ (by decide)
      have := check_chain j (by omega) (h.getD j false) ⟨(y % 3).toNat, by omega⟩
      rw [show (((⟨(y % 3).toNat, by omega⟩ : Fin 3).val : Nat) : Int) = y % 3 by show (((y % 3).toNat : Nat) : Int) = y % 3; omega] at this
      exact this
  have h2 : Pl.hier ((clM7 :: chainOf h 0 l).map fun c => (c.name, c.super)) = (0, hierC l.length) := by
    rw [List.map_cons, nms_chain]
    have h0 := hier_chain l.length hl
    exact Prod.ext h0 rfl
  have h4 : firstOf (members (pgC h l)) (clM7 :: chainOf h 0 l) = 0 := firstOf_all fun c hc => by
    rcases List.mem_cons.1 hc with rfl | hc
    · exact members_main hl
    · obtain ⟨j, y, h1, h2, rfl⟩ := mem_chain h l 0 c hc
      exact members_chain hl (by omega) y _
  have h5 : firstOf (fun c => firstOf (pool1 (pgC h l)) c.pool) (clM7 :: chainOf h 0 l) = 0 := firstOf_all fun c hc => by
    rcases List.mem_cons.1 hc with rfl | hc
    · rfl
    · obtain ⟨j, y, h1, h2, rfl⟩ := mem_chain h l 0 c hc
      rfl
  have h6 : Pl.meth (pgC h l) nMain nmain = (nMain, mtRet nmain, true) := by
    unfold meth
    rw [show (pgC h l).h = hierC l.length from rfl, anc_main _ hl, methIn, cls_main hl]
    rfl
  unfold Pl.link
  rw [if_neg (by rw [h1]; decide), h2]
  simp only
  rw [if_neg (by decide), show progOf (hierC l.length) (clM7 :: chainOf h 0 l) = pgC h l from rfl]
  simp only [h4, h5, h6]
  rfl
end Go.Proofs.Ytpdjkclacbgneaa
namespace Go.Proofs.Ytpdjkclacbgneaa
open Go.RowKit Go.Shelf Go.Proofs.YtpdjkclacbgneaaW.PrintWords Go.Proofs.Ytpdjkclacbgneaa.Pl

abbrev U8 : TypeId := 5
theorem u8Info : (Try.prog.info? U8).map (fun i => (i.zero, i.size, i.bytes)) = some (some (.int .u8 0), 1, 1) := by kernel_rfl
theorem run_make_u8 (n : Nat) (hn : n ≤ 100000) (w : World) : (Instr.makeSlice 40 (.int .i64 (n : Int)) (.int .i64 (n : Int))).run Try.prog w = .ok (.slice (some ⟨w.heap.size, 0, none⟩) n n) (w.alloc (.cells (madeCells #[.int .u8 0] n) U8)) :=
  print_make_of 40 U8 (.int .u8 0) 1 Try.underlying40 u8Info rfl (by decide) n (by omega) w
theorem zeros_C (n : Nat) (hn : n ≤ 100000) (w : World) : (Kd.int .u8).C (w.alloc (.cells (madeCells #[.int .u8 0] n) U8)) (some ⟨w.heap.size, 0, none⟩) n (List.replicate n 0) :=
  Kd.C_of_reads (enc := Value.int .u8) (d := (0 : Int)) (h1 := fun _ => rfl) ⟨by simp, by omega, fun _ => ⟨_, rfl, fun j hj => by
    rw [add_zero_off]
    refine (Bx.cell ⟨blk_new w (.cells (madeCells #[.int .u8 0] n) U8)⟩ (v := .int .u8 0) ?_).trans ?_
    · have h1 : madeCells #[.int .u8 0] n = ((List.replicate n (0 : Int)).map (Value.int .u8)).toArray := by
        apply Array.toList_inj.1
        rw [toList_madeCells_one]
        simp
      rw [h1]
      simp [hj]
    · simp [List.getD_eq_getElem?_getD, hj]⟩⟩
theorem call_name (h : List Bool) : ∀ i, i ≤ 12 → ((callC h i).2.2 = true ∧ ∃ j, j < 12 ∧ (callC h i).1 = letC j) ∨ ((callC h i).2.2 = false ∧ (callC h i).1 = nil)
  | 0, _ => .inr ⟨rfl, rfl⟩
  | i + 1, hi => by
    rw [callC]
    split
    · exact .inl ⟨rfl, i, by omega, rfl⟩
    · exact call_name h i (by omega)
theorem small_chain {h : List Bool} {l : List Int} : ∀ c, c ∈ clM7 :: chainOf h 0 l → c.pool = [] := fun c hc => by
  rcases List.mem_cons.1 hc with rfl | hc
  · rfl
  · obtain ⟨j, y, _, _, rfl⟩ := mem_chain h l 0 c hc
    rfl
set_option maxRecDepth 100000 in
set_option maxHeartbeats 4000000 in
theorem calls_walk (A : Option Addr) (len cap : Nat) (h : List Bool) (w : World) (hA : Kd.bool.C w A len h) : Calls Try.prog 8 #[.slice A len cap] w fun e w' => e = .returned (.bool true) ∧ Below w.heap.size w w' := by
  have HA := Aside0.mk hA
  have hlen := hA.1
  have hmax := hA.2.1
  clear hA
  go_enter Try.func8, Try.ntmps8
  go_wp2_with fail
  refine (known7_any w).mono ?_
  rintro e1 w1 ⟨rfl, hb1⟩
  have B1 := Aside0.mk hb1
  clear hb1
  by_cases h12 : 12 < len
  · have h12z : (len : Int) > 12 := by omega
    go_wp2
    go_ret
    exact ⟨rfl, B1.out⟩
  have h12z : ¬ (len : Int) > 12 := by omega
  have hmk := run_make_u8 len (by omega) w1
  have hz := zeros_C len (by omega) w1
  obtain ⟨W2, hW2⟩ : ∃ W2, w1.alloc (.cells (madeCells #[.int .u8 0] len) U8) = W2 := ⟨_, rfl⟩
  rw [hW2] at hmk hz
  have hb2 : Below w1.heap.size w1 W2 := by rw [← hW2]; exact balloc _ _
  have HA2 := Aside0.mk (Kd.C_below HA.out (bthen B1.out hb2))
  have B2 := Aside0.mk (bthen B1.out hb2)
  have hrl : (List.replicate len (0 : Int)).length = len := by simp
  have ca := chain_any (List.replicate len 0) h (some ⟨w1.heap.size, 0, none⟩) A len cap W2 (by rw [hrl]; exact hz) (fun n hn => by rw [List.eq_of_mem_replicate hn]; decide) (by rw [hlen]; exact HA2.out) (by omega)
  rw [hrl, hlen] at ca
  have CA := Aside0.mk ca
  have HLEN := Lib.hid hlen
  clear hz hb2 ca HA hW2 hlen
  go_wp2_with fail
  refine CA.out.mono ?_
  rintro e2 w3 ⟨v, rfl, hv, hb3⟩
  obtain ⟨A3, c3, rfl, hc3, hC3⟩ := Kd.R_reads hv
  have hl3 : (clM7 :: chainOf h 0 (List.replicate len 0)).length = len + 1 := by rw [List.length_cons, chainOf_len, List.length_replicate]
  have LA := link_any (clM7 :: chainOf h 0 (List.replicate len 0)) A3 c3 w3 hC3 (by rw [hl3]; omega) (fun ⟨c, hc, x, hx, _⟩ => by
    rw [small_chain c hc] at hx
    exact absurd hx List.not_mem_nil)
  rw [link_chain (by rw [List.length_replicate]; omega), hl3] at LA
  rw [hl3]
  have LA := Aside0.mk LA
  have HA3 := Aside0.mk (Kd.C_below HA2.out hb3)
  have B3 := Aside0.mk (bthen B2.out hb3)
  clear hv hC3 hc3 hb3 hl3 CA HA2
  go_wp2_with fail
  refine LA.out.mono ?_
  rintro e4 w4 ⟨pp, rfl, hp, _, hb4⟩
  obtain ⟨pb, rfl, hP⟩ := hp trivial
  have HP := Aside0.mk hP
  have HA4 := Aside0.mk (Kd.C_below HA3.out hb4)
  have B4 := Aside0.mk (bthen B3.out hb4)
  clear hp hP hb4 LA HA3
  go_wp2_with fail
  go_loopw [5, 6] (fun s5 s6 wr => ∃ kk : Nat, kk ≤ len ∧ s6 = .int .i64 kk ∧ s5 = .string (callC h kk).1 ∧ Aside0 (Below w4.heap.size w4 wr)) (fun _ s6 _ => len - (intOf s6).toNat)
  case atStart => exact ⟨0, Nat.zero_le _, rfl, rfl, ⟨Below.refl _ _⟩⟩
  case round =>
    obtain ⟨kk, hk, rfl, rfl, BW⟩ := hrel
    have hk0 : (0 : Int) ≤ (kk : Int) := by omega
    by_cases hlt : kk < len
    · have hltz : (kk : Int) < (len : Int) := by omega
      have hk14 : (kk : Int) + 1 ≤ 14 := by omega
      have hext : (ByteArray.mk #[65, 66, 67, 68, 69, 70, 71, 72, 73, 74, 75, 76, 77, 78]).extract kk (kk + 1) = letC kk := ext7 kk (by omega)
      obtain ⟨bd, rfl, hbc⟩ := Kd.at_bool (Kd.C_below HA4.out BW.out) (kk : Int) (by omega) (by omega)
      obtain ⟨q, hq⟩ : ∃ q, h.getD kk false = q := ⟨_, rfl⟩
      rw [Int.toNat_natCast, rdOf, Int.toNat_natCast, hq] at hbc
      have ME := meth_any pb (pgC h (List.replicate len 0)) (letC kk) nm_m wr (HP.out.below BW.out)
      rw [meth_chain (by rw [List.length_replicate]; omega) (by rw [List.length_replicate]; omega)] at ME
      obtain ⟨s1, hs1⟩ : ∃ s1, (callC h kk).1 = s1 := ⟨_, rfl⟩
      have hnext : (callC h (kk + 1)).1 = if q then letC kk else s1 := by rw [callC, hq, ← hs1]; cases q <;> rfl
      rw [hs1]
      have ME := Aside0.mk ME
      have CN := Aside0.mk (call_name h (kk + 1) (by omega))
      have HNX := Lib.hid hnext
      have HLT := Lib.hid hlt
      clear hs1 hnext hq hlt
      cases q
      all_goals
        go_wp2_with fail
        refine ME.out.mono ?_
        rintro e5 w5 ⟨cs, rfl, hK, hb5⟩
        have B5 := Aside0.mk (bthen BW.out hb5)
        obtain ⟨a0, b0, a1, b1, a2, b2, rfl, _⟩ := mtK_open hK
        clear hK hb5 ME
      · have e1 : (callC h (kk + 1)).1 = s1 := HNX.out
        rw [e1]
        rcases CN.out with ⟨ho, j, hj, hS⟩ | ⟨ho, hS⟩
        · rw [ho]
          have hnm : (callC h (kk + 1)).2.1.name = nm_m := by rw [call_same h _ ho]; rfl
          rw [hnm]
          have hs0 : ¬ s1 = ByteArray.empty := by
            rw [← e1, hS]
            intro e
            have := congrArg ByteArray.size e
            cases this
          have n1 := str_ne hs0
          rw [show ByteArray.empty.toList = [] by decide +kernel] at n1
          have n2 : (s1.toList == []) = false := n1
          have n3 : s1.toList.isEmpty = false := by simpa using n2
          have n4 : ¬ s1.toList = [] := by simpa using n2
          have B6 := Aside0.mk (bthen B5.out (balloc w5 (.cells #[.string nm_m, .slice a0 (callC h (kk + 1)).2.1.params.length b0, .int .i64 (callC h (kk + 1)).2.1.ret.kind, .string (callC h (kk + 1)).2.1.ret.cls, .int .i64 (callC h (kk + 1)).2.1.locals, .int .i64 (callC h (kk + 1)).2.1.stack, .slice a1 (callC h (kk + 1)).2.1.code.length b1, .slice a2 (callC h (kk + 1)).2.1.handlers.length b2] MT)))
          have hq : (nm_m.toList == [109]) = true := by decide +kernel
          have HE1 := Lib.hid e1
          clear hS hs0 e1 ho hnm CN HNX
          go_wp2
          go_roundw
          case rel => exact ⟨kk + 1, HLT.out, by go_num, by rw [HE1.out], B6⟩
          case measure => have := HLT.out; simp [intOf]; omega
        · have hs0 : s1 = nil := by rw [← e1, hS]
          subst hs0
          rw [ho]
          have B6 := Aside0.mk (bthen B5.out (balloc w5 (.cells #[.string (callC h (kk + 1)).2.1.name, .slice a0 (callC h (kk + 1)).2.1.params.length b0, .int .i64 (callC h (kk + 1)).2.1.ret.kind, .string (callC h (kk + 1)).2.1.ret.cls, .int .i64 (callC h (kk + 1)).2.1.locals, .int .i64 (callC h (kk + 1)).2.1.stack, .slice a1 (callC h (kk + 1)).2.1.code.length b1, .slice a2 (callC h (kk + 1)).2.1.handlers.length b2] MT)))
          have n1 : (nil.toList == []) = true := by decide +kernel
          have n3 : nil.toList.isEmpty = true := by decide +kernel
          have n4 : nil.toList = [] := by decide +kernel
          have HE1 := Lib.hid e1
          clear hS e1 ho CN HNX
          go_wp2
          go_roundw
          case rel => exact ⟨kk + 1, HLT.out, by go_num, by rw [HE1.out], B6⟩
          case measure => have := HLT.out; simp [intOf]; omega
      · have e1 : (callC h (kk + 1)).1 = letC kk := HNX.out
        rw [e1]
        obtain ⟨sl, hsl⟩ : ∃ sl, letC kk = sl := ⟨_, rfl⟩
        have hs0 : ¬ sl = ByteArray.empty := by
          rw [← hsl]
          intro e
          have := congrArg ByteArray.size e
          cases this
        have ho : (callC h (kk + 1)).2.2 = true := by
          rcases CN.out with ⟨ho, _⟩ | ⟨_, hS⟩
          · exact ho
          · exact absurd (hsl.symm.trans (e1.symm.trans hS)) hs0
        rw [hsl] at e1 ⊢
        rw [ho]
        have hnm : (callC h (kk + 1)).2.1.name = nm_m := by rw [call_same h _ ho]; rfl
        rw [hnm]
        have n1 := str_ne hs0
        rw [show ByteArray.empty.toList = [] by decide +kernel] at n1
        have n2 : (sl.toList == []) = false := n1
        have n3 : sl.toList.isEmpty = false := by simpa using n2
        have n4 : ¬ sl.toList = [] := by simpa using n2
        have B6 := Aside0.mk (bthen B5.out (balloc w5 (.cells #[.string nm_m, .slice a0 (callC h (kk + 1)).2.1.params.length b0, .int .i64 (callC h (kk + 1)).2.1.ret.kind, .string (callC h (kk + 1)).2.1.ret.cls, .int .i64 (callC h (kk + 1)).2.1.locals, .int .i64 (callC h (kk + 1)).2.1.stack, .slice a1 (callC h (kk + 1)).2.1.code.length b1, .slice a2 (callC h (kk + 1)).2.1.handlers.length b2] MT)))
        have hq : (nm_m.toList == [109]) = true := by decide +kernel
        have HE1 := Lib.hid e1
        clear hs0 e1 ho hnm CN HNX hsl
        go_wp2
        go_roundw
        case rel => exact ⟨kk + 1, HLT.out, by go_num, by rw [HE1.out], B6⟩
        case measure => have := HLT.out; simp [intOf]; omega
    · have hltz : ¬ (kk : Int) < (len : Int) := by omega
      have BN := Aside0.mk (bthen B4.out BW.out)
      clear hlt
      go_wp2
      go_ret
      exact ⟨rfl, BN.out⟩
end Go.Proofs.Ytpdjkclacbgneaa
