/- The program that Link makes: its state while its map of classes is filled; what is known of ancestors that types.New accepts. -/
import Derived.Test.YtpdjkclacbgneaaPool
set_option linter.unusedVariables false
set_option linter.unusedSimpArgs false
namespace Go.Proofs.Ytpdjkclacbgneaa
open Go.RowKit Go.Shelf Go.Proofs.YtpdjkclacbgneaaW.PrintWords Go.Proofs.Ytpdjkclacbgneaa.Pl

def ClsP (K : Cl → List Value → Prop) : List (Nm × Cl) → List (Nm × Value) → Prop
  | [], [] => True
  | (n, c) :: r, (k, v) :: s => n = k ∧ (∃ cs, v = .agg cs.toArray ∧ K c cs) ∧ ClsP K r s
  | _, _ => False
theorem ClsP.put {K : Cl → List Value → Prop} (n : Nm) (c : Cl) (cs : List Value) (hc : K c cs) : ∀ {l : List (Nm × Cl)} {vs : List (Nm × Value)}, ClsP K l vs → ClsP K (Pl.put l n c) (Pl.put vs n (.agg cs.toArray))
  | [], [], _ => ⟨rfl, ⟨cs, rfl, hc⟩, trivial⟩
  | (m, d) :: r, (k, v) :: s, ⟨h1, h2, h4⟩ => by
    subst h1
    by_cases hm : m = n
    · simp only [Pl.put, hm, if_true]
      exact ⟨rfl, ⟨cs, rfl, hc⟩, h4⟩
    · simp only [Pl.put, hm, if_false]
      exact ⟨rfl, h2, ClsP.put n c cs hc h4⟩
  | [], _ :: _, h => h.elim
  | _ :: _, [], h => h.elim
theorem ClsP.is {K : Cl → List Value → Prop} {w : World} (hK : ∀ c cs, K c cs → clK.K w c cs) : ∀ {l : List (Nm × Cl)} {vs : List (Nm × Value)}, ClsP K l vs → ClsIs w l vs
  | [], [], _ => trivial
  | (m, d) :: r, (k, v) :: s, ⟨h1, ⟨cs, h2, h3⟩, h4⟩ => ⟨h1, ⟨cs, h2, hK _ _ h3⟩, ClsP.is hK h4⟩
  | [], _ :: _, h => h.elim
  | _ :: _, [], h => h.elim
def fltCs (f : Nat) : List Value := [.string nFault, .string Pl.nil, .slice none 0 0, .slice (some ⟨f, 0, none⟩) 1 1, .slice none 0 0]
def objCs : List Value := [.string nObject, .string Pl.nil, .slice none 0 0, .slice none 0 0, .slice none 0 0]
def fltO : Obj := .cells #[.string nCode, .int .i64 1, .string Pl.nil, .bool false] 50
theorem objCs_K (w : World) : clK.K w cObject objCs := clK_mk (m := cObject) ⟨Nat.le_refl 0, Nat.le_refl 0, Nat.le_refl 0⟩ (Kd.C_nil cnK w) (Kd.C_nil fdK w) (Kd.C_nil mtK w)
theorem fltCs_K {w : World} {f : Nat} (hf : w.heap[f]? = some fltO) : clK.K w cFault (fltCs f) := by
  refine clK_mk (m := cFault) ⟨Nat.le_refl 0, Nat.le_refl 1, Nat.le_refl 0⟩ (Kd.C_nil cnK w) ?_ (Kd.C_nil mtK w)
  refine ⟨rfl, by decide, fun _ => ⟨_, rfl, fun j p hj => ?_⟩⟩
  have hj0 : j = 0 := by
    have := (List.getElem?_eq_some_iff.1 hj).1
    simp [cFault] at this
    exact this
  subst hj0
  have hp : p = ⟨nCode, ⟨1, Pl.nil⟩, false⟩ := by simpa [cFault] using hj.symm
  subst hp
  refine ⟨fdCs ⟨nCode, ⟨1, Pl.nil⟩, false⟩, rfl, ⟨[_], _, rfl, rfl, [_, _], [_], rfl, ⟨[_], [_], rfl, rfl, rfl⟩, rfl⟩, fun i u hu => ?_⟩
  have hb : Bx w f #[.string nCode, .int .i64 1, .string Pl.nil, .bool false] 50 := ⟨hf⟩
  have hh : (#[Value.string nCode, .int .i64 1, .string Pl.nil, .bool false] : Array Value)[i]? = some u := by simpa [fdCs] using hu
  have h1 := hb.cell hh
  rw [show (0 * fdK.sz + i) = i from by rw [Nat.zero_mul, Nat.zero_add]]
  rw [show (⟨f, 0, none⟩ : Addr).add i = ⟨f, i, none⟩ from add_plain f i]
  exact h1

/-- The program while its map is filled: w1 is the world ahead of it. -/
structure LkSt (w1 W : World) (pb g b f : Nat) (vs : List (Nm × Value)) : Prop where
  bel : Below w1.heap.size w1 W
  blk : W.heap[pb]? = some (.cells #[.pointer (some ⟨g, 0, none⟩), .map (some b)] 93 (0, 0))
  flt : W.heap[f]? = some fltO
  map : MapIs W b vs
  ble : w1.heap.size ≤ b
theorem map_ne {W : World} {b i t : Nat} {cells : Array Value} {vs : List (Nm × Value)} (hm : MapIs W b vs) (hi : W.heap[i]? = some (.cells cells t (0, 0))) : i ≠ b := by
  rintro rfl
  obtain ⟨es, clock, h1, _⟩ := hm.out
  rw [hi] at h1
  cases h1
theorem LkSt.below {w1 W W' : World} {pb g b f : Nat} {vs : List (Nm × Value)} (S : LkSt w1 W pb g b f vs) (hb : Below W.heap.size W W') : LkSt w1 W' pb g b f vs := ⟨bthen S.bel hb, blk_below S.blk hb, blk_below S.flt hb, S.map.below hb, S.ble⟩
theorem LkSt.put {w1 W W' : World} {pb g b f : Nat} {vs vs' : List (Nm × Value)} (S : LkSt w1 W pb g b f vs) (hm : MapIs W' b vs') (hg : W.grownBy W' (some b)) : LkSt w1 W' pb g b f vs' :=
  ⟨S.bel.grown hg S.bel.size (fun k e => by cases e; exact S.ble), (hg.block pb (blk_lt S.blk) (fun e => map_ne S.map S.blk (Option.some.inj e))).trans S.blk, (hg.block f (blk_lt S.flt) (fun e => map_ne S.map S.flt (Option.some.inj e))).trans S.flt, hm, S.ble⟩
theorem LkSt.prog {w1 W : World} {pb g b f : Nat} {vs : List (Nm × Value)} {p : Pg} (S : LkSt w1 W pb g b f vs) (hG : Good p.h) (hH : HierIs w1 g p.h) (hC : ClsP (fun c cs => clK.K w1 c cs ∨ (c = cFault ∧ cs = fltCs f)) p.cs vs) : ProgIs W pb p := by
  refine ⟨hG, ⟨g, Bx.cell ⟨S.blk⟩ (j := 0) rfl, hH.below S.bel⟩, b, vs, Bx.cell ⟨S.blk⟩ (j := 1) rfl, S.map, hC.is fun c cs h => ?_⟩
  rcases h with h | ⟨rfl, rfl⟩
  · exact clK.K_below S.bel h
  · exact fltCs_K S.flt

/-! ### ancestors that are accepted -/
theorem has_append {α : Type} {l m : List (Nm × α)} {n : Nm} : Pl.has (l ++ m) n = (Pl.has l n || Pl.has m n) := by
  induction l with
  | nil => rfl
  | cons p r ih =>
    obtain ⟨k, v⟩ := p
    simp only [List.cons_append, Pl.has]
    split
    · rfl
    · exact ih
theorem has_mem {α : Type} {l : List (Nm × α)} {n : Nm} : Pl.has l n = true ↔ ∃ p, p ∈ l ∧ p.1 = n := by
  induction l with
  | nil => simp [Pl.has]
  | cons p r ih =>
    obtain ⟨k, v⟩ := p
    by_cases h : k = n
    · simp [Pl.has, h]
    · simp only [Pl.has, h, if_false, ih, List.mem_cons]
      constructor
      · rintro ⟨q, h1, h2⟩
        exact ⟨q, .inr h1, h2⟩
      · rintro ⟨q, h1 | h1, h2⟩
        · rw [h1] at h2; exact absurd h2 h
        · exact ⟨q, h1, h2⟩
theorem grow_ok : ∀ {r : List (Nm × Nm)} {h h' : Hier}, grow h r = (0, h') → h' = h ++ r.map (fun p => (p.1, if p.2.size = 0 then nObject else p.2)) ∧ ∀ p, p ∈ r → Pl.has h p.1 = false
  | [], h, h', e => by
    have : h = h' := by simpa [grow] using e
    subst this
    simp
  | (n, s) :: r, h, h', e => by
    by_cases h1 : isName n = true
    · rcases h2 : Pl.has h n with _ | _
      · rw [grow_step h1 h2] at e
        obtain ⟨e1, e2⟩ := grow_ok e
        refine ⟨by rw [e1]; simp, fun p hp => ?_⟩
        rcases List.mem_cons.1 hp with rfl | hp
        · exact h2
        · have := e2 p hp
          rw [has_append] at this
          exact (Bool.or_eq_false_iff.1 this).1
      · simp [grow, h1, h2] at e
    · simp [grow, h1] at e
theorem look_append {α : Type} {z : α} {l m : List (Nm × α)} {n : Nm} (h : Pl.has l n = true) : Pl.look z (l ++ m) n = Pl.look z l n := by
  induction l with
  | nil => cases h
  | cons p r ih =>
    obtain ⟨k, v⟩ := p
    by_cases hk : k = n
    · simp [Pl.look, hk]
    · simp only [Pl.has, hk, if_false] at h
      simp only [List.cons_append, Pl.look, hk, if_false]
      exact ih h
theorem hier_ok {l : List (Nm × Nm)} {h : Hier} (e : Pl.hier l = (0, h)) : Good h ∧ ∀ p, p ∈ l → Pl.has h p.1 = true ∧ ¬ p.1 = nObject := by
  unfold Pl.hier at e
  split at e
  · cases e
  · simp only at e
    split at e
    · rename_i h1
      exact absurd (congrArg Prod.fst e) h1
    · rename_i h1
      have h1 : (grow hier0 l).1 = 0 := by
        rcases Int.decEq (grow hier0 l).1 0 with h | h
        · exact absurd h h1
        · exact h
      split at e
      · cases e
      · split at e
        · cases e
        · rename_i h3
          have hg : grow hier0 l = (0, h) := Prod.ext h1 (Prod.mk.inj e).2
          obtain ⟨e1, e2⟩ := grow_ok hg
          have h3' : ∀ p, p ∈ l → Pl.round h (h.length + 1) p.1 = false := by
            rw [hg] at h3
            simp only [Bool.not_eq_true, List.any_eq_false] at h3
            intro p hp
            exact h3 p hp
          refine ⟨fun n hn => ?_, fun p hp => ⟨?_, fun ho => ?_⟩⟩
          · rw [e1, has_append] at hn
            rcases Bool.or_eq_true_iff.1 hn with hn | hn
            · by_cases ho : n = nObject
              · cases hlen : h.length + 1 <;> simp [Pl.round, ho]
              · have hf : n = nFault := by
                  obtain ⟨p, hp, rfl⟩ := has_mem.1 hn
                  simp only [hier0, List.mem_cons, List.not_mem_nil, or_false] at hp
                  rcases hp with rfl | rfl
                  · exact absurd rfl ho
                  · rfl
                have hs : sup h n = nObject := by
                  unfold sup
                  rw [e1, look_append hn, hf]
                  have : ¬ nObject = nFault := by decide
                  simp [Pl.look, hier0, this]
                rw [show h.length + 1 = (h.length) + 1 from rfl, Pl.round, if_neg ho, hs]
                cases h.length <;> simp [Pl.round]
            · obtain ⟨p, hp, rfl⟩ := has_mem.1 hn
              obtain ⟨q, hq, rfl⟩ := List.mem_map.1 hp
              exact h3' q hq
          · rw [e1, has_append, Bool.or_eq_true_iff]
            exact .inr (has_mem.2 ⟨_, List.mem_map.2 ⟨p, hp, rfl⟩, rfl⟩)
          · have := e2 p hp
            rw [ho] at this
            simp [Pl.has, hier0] at this
end Go.Proofs.Ytpdjkclacbgneaa
