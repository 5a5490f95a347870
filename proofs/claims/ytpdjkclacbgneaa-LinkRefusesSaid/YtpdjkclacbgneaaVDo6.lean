/- verify's does: an instruction of those that are told of. -/
import Derived.Test.YtpdjkclacbgneaaVDo5
set_option linter.unusedVariables false
set_option linter.unusedSimpArgs false
namespace Go.Proofs.Ytpdjkclacbgneaa
open Go.RowKit Go.Shelf Go.Proofs.YtpdjkclacbgneaaW.PrintWords Go.Proofs.Ytpdjkclacbgneaa.Pl

/-- What an instruction may ask: a local that is, a constant that is. -/
def okIns (c : Cl) (n : Nat) (i : In) : Prop :=
  (i.op = 4 ∨ i.op = 5 ∨ i.op = 38 ∨ i.op = 39 → 0 ≤ i.a ∧ i.a < n) ∧ (i.op = 25 → 0 ≤ i.a ∧ i.a < c.pool.length)
set_option maxHeartbeats 1000000 in
theorem does_any {B : Nat} {w : World} {rb fb pb : Nat} {p : Pg} {c : Cl} {m : Mt} {r : Rn} (h : RunAt B w rb fb r) (E : FlowEnv B w fb pb p c m) (hl : r.stack.length ≤ 900) (i : In) (hop : plainOp i.op = true) (hb : okIns c r.locals.length i) :
    Calls Try.prog 80 #[.pointer (some ⟨rb, 0, none⟩), .agg #[.int .i64 i.op, .int .i64 i.a]] w fun x w' => x = .returned (.tuple #[]) ∧ RunAt B w' rb fb (does p c m.ret.kind r i) ∧ Below B w w' := by
  obtain ⟨op, a⟩ := i
  have hop := of_decide_eq_true hop
  simp only [List.mem_cons, List.not_mem_nil, or_false] at hop
  obtain ⟨hb1, hb2⟩ := hb
  simp only at hb1 hb2 ⊢
  rcases hop with rfl | rfl | rfl | rfl | rfl | rfl | rfl | rfl | rfl | rfl | rfl | rfl | rfl | rfl | rfl | rfl | rfl | rfl | rfl | rfl | rfl | rfl | rfl | rfl | rfl | rfl | rfl | rfl | rfl | rfl | rfl
  · exact (does_0 (p := p) (c := c) (m := m) (pb := pb) h a).mono fun x w' ⟨e1, e2, e3⟩ => ⟨e1, by simpa [does] using e2, e3⟩
  · exact (does_1 h E.env hl a).mono fun x w' ⟨e1, e2, e3⟩ => ⟨e1, by simpa [does] using e2, e3⟩
  · exact (does_2 h E.env hl a).mono fun x w' ⟨e1, e2, e3⟩ => ⟨e1, by simpa [does] using e2, e3⟩
  · exact (does_3 h E.env hl a).mono fun x w' ⟨e1, e2, e3⟩ => ⟨e1, by simpa [does] using e2, e3⟩
  · obtain ⟨h0, h1⟩ := hb1 (by simp)
    obtain ⟨k, rfl⟩ := Int.eq_ofNat_of_zero_le h0
    have hk : k < r.locals.length := by omega
    refine (load_any (p := p) (pb := pb) h hl k _ (List.getElem?_eq_getElem hk)).mono fun x w' ⟨e1, e2, e3⟩ => ⟨e1, ?_, e3⟩
    have hg : r.locals[k]?.getD default = r.locals[k] := by rw [List.getElem?_eq_getElem hk]; rfl
    simpa [does, localAt, loadR, hg] using e2
  · obtain ⟨h0, h1⟩ := hb1 (by simp)
    obtain ⟨k, rfl⟩ := Int.eq_ofNat_of_zero_le h0
    have hk : k < r.locals.length := by omega
    refine (store_any (p := p) (pb := pb) h k _ (List.getElem?_eq_getElem hk)).mono fun x w' ⟨e1, e2, e3⟩ => ⟨e1, ?_, e3⟩
    have hg : r.locals[k]?.getD default = r.locals[k] := by rw [List.getElem?_eq_getElem hk]; rfl
    simpa [does, setLocal] using e2
  · exact (does_6 h E.env hl a).mono fun x w' ⟨e1, e2, e3⟩ => ⟨e1, by simpa [does] using e2, e3⟩
  · exact (does_8 h E.env hl a).mono fun x w' ⟨e1, e2, e3⟩ => ⟨e1, by simpa [does] using e2, e3⟩
  · exact (does_9 h E.env hl a).mono fun x w' ⟨e1, e2, e3⟩ => ⟨e1, by simpa [does] using e2, e3⟩
  · exact (does_10 h E.env hl a).mono fun x w' ⟨e1, e2, e3⟩ => ⟨e1, by simpa [does] using e2, e3⟩
  · exact (does_11 h E.env hl a).mono fun x w' ⟨e1, e2, e3⟩ => ⟨e1, by simpa [does] using e2, e3⟩
  · exact (does_12 h E.env hl a).mono fun x w' ⟨e1, e2, e3⟩ => ⟨e1, by simpa [does] using e2, e3⟩
  · exact (does_13 h E.env hl a).mono fun x w' ⟨e1, e2, e3⟩ => ⟨e1, by simpa [does] using e2, e3⟩
  · exact (does_14 h E.env hl a).mono fun x w' ⟨e1, e2, e3⟩ => ⟨e1, by simpa [does] using e2, e3⟩
  · exact (does_15 h E.env hl a).mono fun x w' ⟨e1, e2, e3⟩ => ⟨e1, by simpa [does] using e2, e3⟩
  · exact (does_16 h E.env hl a).mono fun x w' ⟨e1, e2, e3⟩ => ⟨e1, by simpa [does] using e2, e3⟩
  · exact (does_17 h E.env hl a).mono fun x w' ⟨e1, e2, e3⟩ => ⟨e1, by simpa [does] using e2, e3⟩
  · exact (does_18 h E.env hl a).mono fun x w' ⟨e1, e2, e3⟩ => ⟨e1, by simpa [does] using e2, e3⟩
  · exact (does_19 h E.env hl a).mono fun x w' ⟨e1, e2, e3⟩ => ⟨e1, by simpa [does] using e2, e3⟩
  · exact (does_20 h E.env hl a).mono fun x w' ⟨e1, e2, e3⟩ => ⟨e1, by simpa [does] using e2, e3⟩
  · exact (does_22 (p := p) (c := c) (m := m) (pb := pb) h a).mono fun x w' ⟨e1, e2, e3⟩ => ⟨e1, by simpa [does] using e2, e3⟩
  · exact (does_23 h E.env hl a).mono fun x w' ⟨e1, e2, e3⟩ => ⟨e1, by simpa [does] using e2, e3⟩
  · exact (does_24 h E.env hl a).mono fun x w' ⟨e1, e2, e3⟩ => ⟨e1, by simpa [does] using e2, e3⟩
  · obtain ⟨h0, h1⟩ := hb2 rfl
    obtain ⟨k, rfl⟩ := Int.eq_ofNat_of_zero_le h0
    have hk : k < c.pool.length := by omega
    refine (does_25 h E hl k _ (List.getElem?_eq_getElem hk)).mono fun x w' ⟨e1, e2, e3⟩ => ⟨e1, ?_, e3⟩
    have hg : c.pool[k]?.getD default = c.pool[k] := by rw [List.getElem?_eq_getElem hk]; rfl
    simpa [does, hg] using e2
  · exact (does_33 h E a).mono fun x w' ⟨e1, e2, e3⟩ => ⟨e1, by simpa [does, retR] using e2, e3⟩
  · obtain ⟨h0, h1⟩ := hb1 (by simp)
    obtain ⟨k, rfl⟩ := Int.eq_ofNat_of_zero_le h0
    have hk : k < r.locals.length := by omega
    refine (does_38 (p := p) (c := c) (m := m) (pb := pb) h k _ (List.getElem?_eq_getElem hk)).mono fun x w' ⟨e1, e2, e3⟩ => ⟨e1, ?_, e3⟩
    have hg : r.locals[k]?.getD default = r.locals[k] := by rw [List.getElem?_eq_getElem hk]; rfl
    simpa [does, localAt, hg] using e2
  · obtain ⟨h0, h1⟩ := hb1 (by simp)
    obtain ⟨k, rfl⟩ := Int.eq_ofNat_of_zero_le h0
    have hk : k < r.locals.length := by omega
    refine (does_39 (p := p) (c := c) (m := m) (pb := pb) h k _ (List.getElem?_eq_getElem hk)).mono fun x w' ⟨e1, e2, e3⟩ => ⟨e1, ?_, e3⟩
    have hg : r.locals[k]?.getD default = r.locals[k] := by rw [List.getElem?_eq_getElem hk]; rfl
    simpa [does, localAt, hg] using e2
  · exact (does_44 h E.env hl a).mono fun x w' ⟨e1, e2, e3⟩ => ⟨e1, by simpa [does] using e2, e3⟩
  · exact (does_45 (p := p) (c := c) (m := m) (pb := pb) h a).mono fun x w' ⟨e1, e2, e3⟩ => ⟨e1, by simpa [does] using e2, e3⟩
  · exact (does_46 h E.env hl a).mono fun x w' ⟨e1, e2, e3⟩ => ⟨e1, by simpa [does] using e2, e3⟩
  · exact (does_47 h E.env hl a).mono fun x w' ⟨e1, e2, e3⟩ => ⟨e1, by simpa [does] using e2, e3⟩
end Go.Proofs.Ytpdjkclacbgneaa
