/- slices.IndexFunc, slices.ContainsFunc at each type of elements, at whatever function value. -/
import Derived.Test.YtpdjkclacbgneaaCls2
import Derived.Deep.LoopGhost
set_option linter.unusedVariables false
set_option linter.unusedSimpArgs false
namespace Go.Proofs.Ytpdjkclacbgneaa
open Go.RowKit Go.Proofs.YtpdjkclacbgneaaW.PrintWords Go.Proofs.Ytpdjkclacbgneaa.Pl

/-- the first place below n where p holds; -1 -/
def idxFrom (p : Nat → Bool) (i : Nat) : Nat → Int
  | 0 => -1
  | n + 1 => if p i = true then (i : Int) else idxFrom p (i + 1) n
def idxB (p : Nat → Bool) (n : Nat) : Int := idxFrom p 0 n
theorem idxFrom_hit {p : Nat → Bool} : ∀ (n k i : Nat), k < n → (∀ j, i ≤ j → j < i + k → p j = false) → p (i + k) = true → idxFrom p i n = ((i + k : Nat) : Int)
  | 0, k, i, hk, _, _ => absurd hk (Nat.not_lt_zero _)
  | n + 1, 0, i, _, _, h => by
    have h' : p i = true := h
    simp [idxFrom, h']
  | n + 1, k + 1, i, hk, hf, h => by
    have h0 : p i = false := hf i (Nat.le_refl _) (by omega)
    have := idxFrom_hit n k (i + 1) (by omega) (fun j h1 h2 => hf j (by omega) (by omega)) (by rw [show i + 1 + k = i + (k + 1) by omega]; exact h)
    simp only [idxFrom, h0]
    rw [if_neg (by decide), this]
    congr 1
    omega
theorem idxFrom_miss {p : Nat → Bool} : ∀ (n i : Nat), (∀ j, i ≤ j → j < i + n → p j = false) → idxFrom p i n = -1
  | 0, i, _ => rfl
  | n + 1, i, hf => by
    have h0 : p i = false := hf i (Nat.le_refl _) (by omega)
    simp only [idxFrom, h0]
    rw [if_neg (by decide)]
    exact idxFrom_miss n (i + 1) (fun j h1 h2 => hf j (by omega) (by omega))
theorem idxB_hit {p : Nat → Bool} {n k : Nat} (hk : k < n) (hf : ∀ j, j < k → p j = false) (h : p k = true) : idxB p n = (k : Int) := by
  have := idxFrom_hit (p := p) n k 0 hk (fun j _ h2 => hf j (by omega)) (by rw [Nat.zero_add]; exact h)
  rw [Nat.zero_add] at this
  exact this
theorem idxB_miss {p : Nat → Bool} {n : Nat} (hf : ∀ j, j < n → p j = false) : idxB p n = -1 := idxFrom_miss n 0 fun j _ h2 => hf j (by omega)
def anyB (p : Nat → Bool) (n : Nat) : Bool := decide (0 ≤ idxB p n)
theorem idxFrom_nonneg {p : Nat → Bool} : ∀ (n i : Nat), (0 ≤ idxFrom p i n ↔ ∃ j, i ≤ j ∧ j < i + n ∧ p j = true)
  | 0, i => by simp [idxFrom]; omega
  | n + 1, i => by
    by_cases h : p i = true
    · simp only [idxFrom, h, if_true]
      exact ⟨fun _ => ⟨i, Nat.le_refl _, by omega, h⟩, fun _ => by omega⟩
    · simp only [idxFrom, h]
      rw [if_neg (by simp), idxFrom_nonneg n (i + 1)]
      constructor
      · rintro ⟨j, h1, h2, h3⟩
        exact ⟨j, by omega, by omega, h3⟩
      · rintro ⟨j, h1, h2, h3⟩
        refine ⟨j, ?_, by omega, h3⟩
        rcases Nat.eq_or_lt_of_le h1 with rfl | h4
        · exact absurd h3 h
        · exact h4
theorem anyB_list {α : Type} (p : α → Bool) (z : α) (l : List α) : anyB (fun j => p (l.getD j z)) l.length = l.any p := by
  unfold anyB
  rw [Bool.eq_iff_iff, decide_eq_true_iff, List.any_eq_true]
  unfold idxB
  rw [idxFrom_nonneg]
  constructor
  · rintro ⟨j, _, h2, h3⟩
    rw [Nat.zero_add] at h2
    refine ⟨l.getD j z, ?_, h3⟩
    rw [List.getD_eq_getElem?_getD, List.getElem?_eq_getElem h2]
    exact List.getElem_mem h2
  · rintro ⟨x, hx, hp⟩
    obtain ⟨j, hj, rfl⟩ := List.mem_iff_getElem.1 hx
    refine ⟨j, Nat.zero_le _, by omega, ?_⟩
    rw [List.getD_eq_getElem?_getD, List.getElem?_eq_getElem hj]
    exact hp
theorem load_list (P : Program) (W : World) (a : Addr) (cs : List Value) (k : Nat) (hk : cs.length = k) (h : ∀ j v, cs[j]? = some v → W.cell? (a.add j) = some v) :
    Sem.run P (loadCellsFrom a 0 k #[]) W = .ok cs.toArray W := by
  have := run_loadCells_list (P := P) (w := W) a cs h
  rw [hk] at this
  simpa [loadCells] using this
/-- What the cells of a row of n elements, of k cells each, hold. -/
def Cells (w : World) (A : Option Addr) (n k : Nat) (cs : Nat → List Value) : Prop :=
  n ≤ 9223372036854775807 ∧ (0 < n → ∃ ad, A = some ad ∧ ∀ j, j < n → (cs j).length = k ∧ ∀ i v, (cs j)[i]? = some v → w.cell? (ad.add (j * k + i)) = some v)
theorem add_add (ad : Addr) (m i : Nat) : (ad.add m).add i = ad.add (m + i) := by
  unfold Addr.add
  by_cases hm : m = 0
  · subst hm; simp
  · by_cases hi : i = 0
    · subst hi; simp [hm]
    · simp [hm, hi, Nat.add_assoc]
theorem Cells.below {w w1 : World} {A : Option Addr} {n k : Nat} {cs : Nat → List Value} (h : Cells w A n k cs) (hb : Below w.heap.size w w1) : Cells w1 A n k cs :=
  ⟨h.1, fun hn => by
    obtain ⟨ad, e, hc⟩ := h.2 hn
    exact ⟨ad, e, fun j hj => ⟨(hc j hj).1, fun i v hv => pw_cell_below hb ((hc j hj).2 i v hv)⟩⟩⟩
theorem Cells.load {w : World} {ad : Addr} {n k : Nat} {cs : Nat → List Value} (P : Program) (h : Cells w (some ad) n k cs) {j : Nat} (hj : j < n) : Sem.run P (loadCellsFrom (ad.add (j * k)) 0 k #[]) w = .ok (cs j).toArray w := by
  obtain ⟨ad', e, hc⟩ := h.2 (by omega)
  cases e
  refine load_list P w _ (cs j) k (hc j hj).1 fun i v hv => ?_
  rw [add_add]
  exact (hc j hj).2 i v hv
theorem Cells.at0 {w : World} {ad : Addr} {n k : Nat} {cs : Nat → List Value} (h : Cells w (some ad) n k cs) {j : Nat} (hj : j < n) {v : Value} (hv : (cs j)[0]? = some v) : w.cell? (ad.add (j * k)) = some v := by
  obtain ⟨ad', e, hc⟩ := h.2 (by omega)
  cases e
  exact (hc j hj).2 0 v hv
theorem Cells.at_ {w : World} {ad : Addr} {n k : Nat} {cs : Nat → List Value} (h : Cells w (some ad) n k cs) {j i : Nat} (hj : j < n) (hi : 0 < i) {v : Value} (hv : (cs j)[i]? = some v) : w.cell? ⟨(ad.add (j * k)).block, (ad.add (j * k)).off + i, none⟩ = some v := by
  obtain ⟨ad', e, hc⟩ := h.2 (by omega)
  cases e
  rw [← add_field ad (j * k) i hi]
  exact (hc j hj).2 i v hv
theorem Cells.one {w : World} {ad : Addr} {n : Nat} {cs : Nat → List Value} (h : Cells w (some ad) n 1 cs) {j : Nat} (hj : j < n) {v : Value} (hv : cs j = [v]) : w.cell? (ad.add j) = some v := by
  obtain ⟨ad', e, hc⟩ := h.2 (by omega)
  cases e
  have := (hc j hj).2 0 v (by rw [hv]; rfl)
  rwa [Nat.mul_one] at this
/-- A function value that answers p of each element, and lays only new blocks. -/
def Asks (P : Program) (g : Nat) (lb : Array Value) (el : Nat → Value) (n : Nat) (p : Nat → Bool) (w : World) : Prop :=
  ∀ j, j < n → ∀ W, Below w.heap.size w W → Calls P g (#[el j] ++ lb) W fun e w' => e = .returned (.bool (p j)) ∧ Below W.heap.size W w'

set_option maxHeartbeats 4000000 in
set_option maxRecDepth 10000 in
theorem idx_Fd (g : Nat) (lb : Array Value) (eg : ∀ args w, (callFunc g args).run Try.prog w = .ok (.enter g args) w) (A : Option Addr) (n c : Nat) (cs : Nat → List Value) (p : Nat → Bool) (w : World)
    (hc : Cells w A n 4 cs) (hp : Asks Try.prog g lb (fun j => .agg (cs j).toArray) n p w) :
    Calls Try.prog 114 #[.slice A n c, .func (.func g) #[] lb] w fun e w' => e = .returned (.int .i64 (idxB p n)) ∧ Below w.heap.size w w' := by
  have hbig := hc.1
  go_enter Try.func114, Try.ntmps114
  go_wp2
  go_loopg [5, 8] n (fun gg _ s8 wr => ∃ kk : Nat, kk ≤ n ∧ n - kk ≤ gg ∧ s8 = .int .i64 kk ∧ Aside0 (Below w.heap.size w wr) ∧ Aside0 (∀ j, j < kk → p j = false))
  case atStart => exact ⟨0, Nat.zero_le _, by omega, rfl, ⟨Below.refl _ w⟩, ⟨fun j hj => absurd hj (Nat.not_lt_zero _)⟩⟩
  case round =>
    obtain ⟨kk, hkk, hg, rfl, BW, A'⟩ := hrel
    by_cases hlt : kk < n
    · have hltz : (kk : Int) < (n : Int) := by omega
      have BC : Aside0 (Cells wr A n 4 cs) := ⟨hc.below BW.out⟩
      have HC := hp kk hlt wr BW.out
      obtain ⟨ad, rfl, had⟩ := BC.out.2 (by omega)
      have hlen := (had kk hlt).1
      clear had hp hc
      obtain ⟨v0, v1, v2, v3, hv⟩ : ∃ v0 v1 v2 v3, cs kk = [v0, v1, v2, v3] := by
        match h : cs kk, hlen with
        | [v0, v1, v2, v3], _ => exact ⟨v0, v1, v2, v3, rfl⟩
      simp only [hv] at HC
      have l0 := BC.out.at0 hlt (v := v0) (by rw [hv]; rfl)
      have l1 := BC.out.at_ hlt (i := 1) (by decide) (v := v1) (by rw [hv]; rfl)
      have l2 := BC.out.at_ hlt (i := 2) (by decide) (v := v2) (by rw [hv]; rfl)
      have l3 := BC.out.at_ hlt (i := 3) (by decide) (v := v3) (by rw [hv]; rfl)
      clear hv
      generalize hq : p kk = q at HC
      have HQ := Lib.hid hq
      clear hq
      cases q with
      | true =>
        go_wp2
        refine HC.mono ?_
        rintro e w' ⟨rfl, hb'⟩
        go_wp2
        go_ret
        refine ⟨?_, bthen BW.out hb'⟩
        rw [idxB_hit hlt A'.out HQ.out]
        rfl
      | false =>
        go_wp2
        refine HC.mono ?_
        rintro e w' ⟨rfl, hb'⟩
        go_wp2
        go_roundg (n - (kk + 1))
        case measure => omega
        case rel =>
          refine ⟨kk + 1, by omega, by omega, by go_num, ⟨bthen BW.out hb'⟩, ⟨fun j hj => ?_⟩⟩
          by_cases e : j = kk
          · subst e
            exact HQ.out
          · exact A'.out j (by omega)
    · have hltz : ¬ (kk : Int) < (n : Int) := by omega
      have : kk = n := by omega
      subst this
      go_wp2
      go_ret
      refine ⟨?_, BW.out⟩
      rw [idxB_miss A'.out]
      rfl

set_option maxHeartbeats 4000000 in
theorem contains_Fd (g : Nat) (lb : Array Value) (eg : ∀ args w, (callFunc g args).run Try.prog w = .ok (.enter g args) w) (A : Option Addr) (n c : Nat) (cs : Nat → List Value) (p : Nat → Bool) (w : World)
    (hc : Cells w A n 4 cs) (hp : Asks Try.prog g lb (fun j => .agg (cs j).toArray) n p w) :
    Calls Try.prog 88 #[.slice A n c, .func (.func g) #[] lb] w fun e w' => e = .returned (.bool (anyB p n)) ∧ Below w.heap.size w w' := by
  go_enter Try.func88, Try.ntmps88
  go_wp2_with fail
  refine (idx_Fd g lb eg A n c cs p _ hc hp).mono ?_
  rintro e w' ⟨rfl, hb'⟩
  go_wp2
  go_ret
  exact ⟨rfl, hb'⟩

set_option maxHeartbeats 4000000 in
set_option maxRecDepth 10000 in
theorem idx_Ty (g : Nat) (lb : Array Value) (eg : ∀ args w, (callFunc g args).run Try.prog w = .ok (.enter g args) w) (A : Option Addr) (n c : Nat) (cs : Nat → List Value) (p : Nat → Bool) (w : World)
    (hc : Cells w A n 2 cs) (hp : Asks Try.prog g lb (fun j => .agg (cs j).toArray) n p w) :
    Calls Try.prog 115 #[.slice A n c, .func (.func g) #[] lb] w fun e w' => e = .returned (.int .i64 (idxB p n)) ∧ Below w.heap.size w w' := by
  have hbig := hc.1
  go_enter Try.func115, Try.ntmps115
  go_wp2
  go_loopg [5, 8] n (fun gg _ s8 wr => ∃ kk : Nat, kk ≤ n ∧ n - kk ≤ gg ∧ s8 = .int .i64 kk ∧ Aside0 (Below w.heap.size w wr) ∧ Aside0 (∀ j, j < kk → p j = false))
  case atStart => exact ⟨0, Nat.zero_le _, by omega, rfl, ⟨Below.refl _ w⟩, ⟨fun j hj => absurd hj (Nat.not_lt_zero _)⟩⟩
  case round =>
    obtain ⟨kk, hkk, hg, rfl, BW, A'⟩ := hrel
    by_cases hlt : kk < n
    · have hltz : (kk : Int) < (n : Int) := by omega
      have BC : Aside0 (Cells wr A n 2 cs) := ⟨hc.below BW.out⟩
      have HC := hp kk hlt wr BW.out
      obtain ⟨ad, rfl, had⟩ := BC.out.2 (by omega)
      have hlen := (had kk hlt).1
      clear had hp hc
      obtain ⟨v0, v1, hv⟩ : ∃ v0 v1, cs kk = [v0, v1] := by
        match h : cs kk, hlen with
        | [v0, v1], _ => exact ⟨v0, v1, rfl⟩
      simp only [hv] at HC
      have l0 := BC.out.at0 hlt (v := v0) (by rw [hv]; rfl)
      have l1 := BC.out.at_ hlt (i := 1) (by decide) (v := v1) (by rw [hv]; rfl)
      clear hv
      generalize hq : p kk = q at HC
      have HQ := Lib.hid hq
      clear hq
      cases q with
      | true =>
        go_wp2
        refine HC.mono ?_
        rintro e w' ⟨rfl, hb'⟩
        go_wp2
        go_ret
        refine ⟨?_, bthen BW.out hb'⟩
        rw [idxB_hit hlt A'.out HQ.out]
        rfl
      | false =>
        go_wp2
        refine HC.mono ?_
        rintro e w' ⟨rfl, hb'⟩
        go_wp2
        go_roundg (n - (kk + 1))
        case measure => omega
        case rel =>
          refine ⟨kk + 1, by omega, by omega, by go_num, ⟨bthen BW.out hb'⟩, ⟨fun j hj => ?_⟩⟩
          by_cases e : j = kk
          · subst e
            exact HQ.out
          · exact A'.out j (by omega)
    · have hltz : ¬ (kk : Int) < (n : Int) := by omega
      have : kk = n := by omega
      subst this
      go_wp2
      go_ret
      refine ⟨?_, BW.out⟩
      rw [idxB_miss A'.out]
      rfl

set_option maxHeartbeats 4000000 in
theorem contains_Ty (g : Nat) (lb : Array Value) (eg : ∀ args w, (callFunc g args).run Try.prog w = .ok (.enter g args) w) (A : Option Addr) (n c : Nat) (cs : Nat → List Value) (p : Nat → Bool) (w : World)
    (hc : Cells w A n 2 cs) (hp : Asks Try.prog g lb (fun j => .agg (cs j).toArray) n p w) :
    Calls Try.prog 91 #[.slice A n c, .func (.func g) #[] lb] w fun e w' => e = .returned (.bool (anyB p n)) ∧ Below w.heap.size w w' := by
  go_enter Try.func91, Try.ntmps91
  go_wp2_with fail
  refine (idx_Ty g lb eg A n c cs p _ hc hp).mono ?_
  rintro e w' ⟨rfl, hb'⟩
  go_wp2
  go_ret
  exact ⟨rfl, hb'⟩

set_option maxHeartbeats 4000000 in
set_option maxRecDepth 10000 in
theorem idx_Mt (g : Nat) (lb : Array Value) (eg : ∀ args w, (callFunc g args).run Try.prog w = .ok (.enter g args) w) (A : Option Addr) (n c : Nat) (cs : Nat → List Value) (p : Nat → Bool) (w : World)
    (hc : Cells w A n 8 cs) (hp : Asks Try.prog g lb (fun j => .agg (cs j).toArray) n p w) :
    Calls Try.prog 49 #[.slice A n c, .func (.func g) #[] lb] w fun e w' => e = .returned (.int .i64 (idxB p n)) ∧ Below w.heap.size w w' := by
  have hbig := hc.1
  go_enter Try.func49, Try.ntmps49
  go_wp2
  go_loopg [5, 8] n (fun gg _ s8 wr => ∃ kk : Nat, kk ≤ n ∧ n - kk ≤ gg ∧ s8 = .int .i64 kk ∧ Aside0 (Below w.heap.size w wr) ∧ Aside0 (∀ j, j < kk → p j = false))
  case atStart => exact ⟨0, Nat.zero_le _, by omega, rfl, ⟨Below.refl _ w⟩, ⟨fun j hj => absurd hj (Nat.not_lt_zero _)⟩⟩
  case round =>
    obtain ⟨kk, hkk, hg, rfl, BW, A'⟩ := hrel
    by_cases hlt : kk < n
    · have hltz : (kk : Int) < (n : Int) := by omega
      have BC : Aside0 (Cells wr A n 8 cs) := ⟨hc.below BW.out⟩
      have HC := hp kk hlt wr BW.out
      obtain ⟨ad, rfl, had⟩ := BC.out.2 (by omega)
      have hlen := (had kk hlt).1
      clear had hp hc
      obtain ⟨v0, v1, v2, v3, v4, v5, v6, v7, hv⟩ : ∃ v0 v1 v2 v3 v4 v5 v6 v7, cs kk = [v0, v1, v2, v3, v4, v5, v6, v7] := by
        match h : cs kk, hlen with
        | [v0, v1, v2, v3, v4, v5, v6, v7], _ => exact ⟨v0, v1, v2, v3, v4, v5, v6, v7, rfl⟩
      simp only [hv] at HC
      have l0 := BC.out.at0 hlt (v := v0) (by rw [hv]; rfl)
      have l1 := BC.out.at_ hlt (i := 1) (by decide) (v := v1) (by rw [hv]; rfl)
      have l2 := BC.out.at_ hlt (i := 2) (by decide) (v := v2) (by rw [hv]; rfl)
      have l3 := BC.out.at_ hlt (i := 3) (by decide) (v := v3) (by rw [hv]; rfl)
      have l4 := BC.out.at_ hlt (i := 4) (by decide) (v := v4) (by rw [hv]; rfl)
      have l5 := BC.out.at_ hlt (i := 5) (by decide) (v := v5) (by rw [hv]; rfl)
      have l6 := BC.out.at_ hlt (i := 6) (by decide) (v := v6) (by rw [hv]; rfl)
      have l7 := BC.out.at_ hlt (i := 7) (by decide) (v := v7) (by rw [hv]; rfl)
      clear hv
      generalize hq : p kk = q at HC
      have HQ := Lib.hid hq
      clear hq
      cases q with
      | true =>
        go_wp2
        refine HC.mono ?_
        rintro e w' ⟨rfl, hb'⟩
        go_wp2
        go_ret
        refine ⟨?_, bthen BW.out hb'⟩
        rw [idxB_hit hlt A'.out HQ.out]
        rfl
      | false =>
        go_wp2
        refine HC.mono ?_
        rintro e w' ⟨rfl, hb'⟩
        go_wp2
        go_roundg (n - (kk + 1))
        case measure => omega
        case rel =>
          refine ⟨kk + 1, by omega, by omega, by go_num, ⟨bthen BW.out hb'⟩, ⟨fun j hj => ?_⟩⟩
          by_cases e : j = kk
          · subst e
            exact HQ.out
          · exact A'.out j (by omega)
    · have hltz : ¬ (kk : Int) < (n : Int) := by omega
      have : kk = n := by omega
      subst this
      go_wp2
      go_ret
      refine ⟨?_, BW.out⟩
      rw [idxB_miss A'.out]
      rfl

set_option maxHeartbeats 4000000 in
theorem contains_Mt (g : Nat) (lb : Array Value) (eg : ∀ args w, (callFunc g args).run Try.prog w = .ok (.enter g args) w) (A : Option Addr) (n c : Nat) (cs : Nat → List Value) (p : Nat → Bool) (w : World)
    (hc : Cells w A n 8 cs) (hp : Asks Try.prog g lb (fun j => .agg (cs j).toArray) n p w) :
    Calls Try.prog 92 #[.slice A n c, .func (.func g) #[] lb] w fun e w' => e = .returned (.bool (anyB p n)) ∧ Below w.heap.size w w' := by
  go_enter Try.func92, Try.ntmps92
  go_wp2_with fail
  refine (idx_Mt g lb eg A n c cs p _ hc hp).mono ?_
  rintro e w' ⟨rfl, hb'⟩
  go_wp2
  go_ret
  exact ⟨rfl, hb'⟩

set_option maxHeartbeats 4000000 in
set_option maxRecDepth 10000 in
theorem idx_Sl (g : Nat) (lb : Array Value) (eg : ∀ args w, (callFunc g args).run Try.prog w = .ok (.enter g args) w) (A : Option Addr) (n c : Nat) (cs : Nat → List Value) (p : Nat → Bool) (w : World)
    (hc : Cells w A n 6 cs) (hp : Asks Try.prog g lb (fun j => .agg (cs j).toArray) n p w) :
    Calls Try.prog 37 #[.slice A n c, .func (.func g) #[] lb] w fun e w' => e = .returned (.int .i64 (idxB p n)) ∧ Below w.heap.size w w' := by
  have hbig := hc.1
  go_enter Try.func37, Try.ntmps37
  go_wp2
  go_loopg [5, 8] n (fun gg _ s8 wr => ∃ kk : Nat, kk ≤ n ∧ n - kk ≤ gg ∧ s8 = .int .i64 kk ∧ Aside0 (Below w.heap.size w wr) ∧ Aside0 (∀ j, j < kk → p j = false))
  case atStart => exact ⟨0, Nat.zero_le _, by omega, rfl, ⟨Below.refl _ w⟩, ⟨fun j hj => absurd hj (Nat.not_lt_zero _)⟩⟩
  case round =>
    obtain ⟨kk, hkk, hg, rfl, BW, A'⟩ := hrel
    by_cases hlt : kk < n
    · have hltz : (kk : Int) < (n : Int) := by omega
      have BC : Aside0 (Cells wr A n 6 cs) := ⟨hc.below BW.out⟩
      have HC := hp kk hlt wr BW.out
      obtain ⟨ad, rfl, had⟩ := BC.out.2 (by omega)
      have hlen := (had kk hlt).1
      clear had hp hc
      obtain ⟨v0, v1, v2, v3, v4, v5, hv⟩ : ∃ v0 v1 v2 v3 v4 v5, cs kk = [v0, v1, v2, v3, v4, v5] := by
        match h : cs kk, hlen with
        | [v0, v1, v2, v3, v4, v5], _ => exact ⟨v0, v1, v2, v3, v4, v5, rfl⟩
      simp only [hv] at HC
      have l0 := BC.out.at0 hlt (v := v0) (by rw [hv]; rfl)
      have l1 := BC.out.at_ hlt (i := 1) (by decide) (v := v1) (by rw [hv]; rfl)
      have l2 := BC.out.at_ hlt (i := 2) (by decide) (v := v2) (by rw [hv]; rfl)
      have l3 := BC.out.at_ hlt (i := 3) (by decide) (v := v3) (by rw [hv]; rfl)
      have l4 := BC.out.at_ hlt (i := 4) (by decide) (v := v4) (by rw [hv]; rfl)
      have l5 := BC.out.at_ hlt (i := 5) (by decide) (v := v5) (by rw [hv]; rfl)
      clear hv
      generalize hq : p kk = q at HC
      have HQ := Lib.hid hq
      clear hq
      cases q with
      | true =>
        go_wp2
        refine HC.mono ?_
        rintro e w' ⟨rfl, hb'⟩
        go_wp2
        go_ret
        refine ⟨?_, bthen BW.out hb'⟩
        rw [idxB_hit hlt A'.out HQ.out]
        rfl
      | false =>
        go_wp2
        refine HC.mono ?_
        rintro e w' ⟨rfl, hb'⟩
        go_wp2
        go_roundg (n - (kk + 1))
        case measure => omega
        case rel =>
          refine ⟨kk + 1, by omega, by omega, by go_num, ⟨bthen BW.out hb'⟩, ⟨fun j hj => ?_⟩⟩
          by_cases e : j = kk
          · subst e
            exact HQ.out
          · exact A'.out j (by omega)
    · have hltz : ¬ (kk : Int) < (n : Int) := by omega
      have : kk = n := by omega
      subst this
      go_wp2
      go_ret
      refine ⟨?_, BW.out⟩
      rw [idxB_miss A'.out]
      rfl

set_option maxHeartbeats 4000000 in
set_option maxRecDepth 10000 in
theorem idx_St (g : Nat) (lb : Array Value) (eg : ∀ args w, (callFunc g args).run Try.prog w = .ok (.enter g args) w) (A : Option Addr) (n c : Nat) (cs : Nat → List Value) (p : Nat → Bool) (w : World)
    (hc : Cells w A n 1 cs) (hp : Asks Try.prog g lb (fun j => (cs j).headD undef) n p w) :
    Calls Try.prog 95 #[.slice A n c, .func (.func g) #[] lb] w fun e w' => e = .returned (.int .i64 (idxB p n)) ∧ Below w.heap.size w w' := by
  have hbig := hc.1
  go_enter Try.func95, Try.ntmps95
  go_wp2
  go_loopg [5, 8] n (fun gg _ s8 wr => ∃ kk : Nat, kk ≤ n ∧ n - kk ≤ gg ∧ s8 = .int .i64 kk ∧ Aside0 (Below w.heap.size w wr) ∧ Aside0 (∀ j, j < kk → p j = false))
  case atStart => exact ⟨0, Nat.zero_le _, by omega, rfl, ⟨Below.refl _ w⟩, ⟨fun j hj => absurd hj (Nat.not_lt_zero _)⟩⟩
  case round =>
    obtain ⟨kk, hkk, hg, rfl, BW, A'⟩ := hrel
    by_cases hlt : kk < n
    · have hltz : (kk : Int) < (n : Int) := by omega
      have BC : Aside0 (Cells wr A n 1 cs) := ⟨hc.below BW.out⟩
      have HC := hp kk hlt wr BW.out
      obtain ⟨ad, rfl, had⟩ := BC.out.2 (by omega)
      have hlen := (had kk hlt).1
      clear had hp hc
      obtain ⟨v0, hv⟩ : ∃ v0, cs kk = [v0] := by
        match h : cs kk, hlen with
        | [v0], _ => exact ⟨v0, rfl⟩
      simp only [hv, List.headD_cons] at HC
      have l0 := BC.out.one hlt hv
      clear hv
      generalize hq : p kk = q at HC
      have HQ := Lib.hid hq
      clear hq
      cases q with
      | true =>
        go_wp2
        refine HC.mono ?_
        rintro e w' ⟨rfl, hb'⟩
        go_wp2
        go_ret
        refine ⟨?_, bthen BW.out hb'⟩
        rw [idxB_hit hlt A'.out HQ.out]
        rfl
      | false =>
        go_wp2
        refine HC.mono ?_
        rintro e w' ⟨rfl, hb'⟩
        go_wp2
        go_roundg (n - (kk + 1))
        case measure => omega
        case rel =>
          refine ⟨kk + 1, by omega, by omega, by go_num, ⟨bthen BW.out hb'⟩, ⟨fun j hj => ?_⟩⟩
          by_cases e : j = kk
          · subst e
            exact HQ.out
          · exact A'.out j (by omega)
    · have hltz : ¬ (kk : Int) < (n : Int) := by omega
      have : kk = n := by omega
      subst this
      go_wp2
      go_ret
      refine ⟨?_, BW.out⟩
      rw [idxB_miss A'.out]
      rfl

set_option maxHeartbeats 4000000 in
theorem contains_St (g : Nat) (lb : Array Value) (eg : ∀ args w, (callFunc g args).run Try.prog w = .ok (.enter g args) w) (A : Option Addr) (n c : Nat) (cs : Nat → List Value) (p : Nat → Bool) (w : World)
    (hc : Cells w A n 1 cs) (hp : Asks Try.prog g lb (fun j => (cs j).headD undef) n p w) :
    Calls Try.prog 63 #[.slice A n c, .func (.func g) #[] lb] w fun e w' => e = .returned (.bool (anyB p n)) ∧ Below w.heap.size w w' := by
  go_enter Try.func63, Try.ntmps63
  go_wp2_with fail
  refine (idx_St g lb eg A n c cs p _ hc hp).mono ?_
  rintro e w' ⟨rfl, hb'⟩
  go_wp2
  go_ret
  exact ⟨rfl, hb'⟩
end Go.Proofs.Ytpdjkclacbgneaa
