/- Part GroupC of the proof: an abstract machine for the program's calls, and what functions do on it. It has no conditions. -/
import Derived.KernelRfl
/- The plain law of expressions: a recursive descent and a division at the last weakest sign accept the same lists, and make the same trees. No program is in sight. -/
namespace Go.Proofs.YtkgdkommahgakaaDoor.Gram
set_option linter.unusedVariables false

/-- What a token is to an expression; N: what an operand is. A binary sign: how strongly it binds (1 to 6), its node's kind. -/
inductive Cl (N : Type) where
  | atom (n : N)
  | lp | rp | tilde
  | bin (lvl : Nat) (kind : Int)
  | other
/-- A tree. -/
inductive Tr (N : Type) where
  | atom (n : N)
  | un (k : Int) (t : Tr N)
  | bin (k : Int) (a b : Tr N)
variable {N : Type}
def Tr.size : Tr N → Nat
  | .atom _ => 1
  | .un _ t => t.size + 1
  | .bin _ a b => a.size + b.size + 1
def Cl.lvl : Cl N → Nat
  | .bin l _ => l
  | _ => 0
def Cl.kind : Cl N → Int
  | .bin _ k => k
  | _ => 0
/-- A sign of one operand, and its node's kind ('-' is the binary sign whose kind is 6, too). -/
def Cl.un : Cl N → Option Int
  | .tilde => some 4
  | .bin _ k => if k = 6 then some 3 else none
  | _ => none
def Cl.isL : Cl N → Bool
  | .lp => true
  | _ => false
def Cl.isR : Cl N → Bool
  | .rp => true
  | _ => false
def Cl.ends : Cl N → Bool
  | .atom _ => true
  | .rp => true
  | _ => false
def Cl.ok : Cl N → Prop
  | .bin l _ => 1 ≤ l ∧ l ≤ 6
  | _ => True
theorem Tr.pos (t : Tr N) : 1 ≤ t.size := by cases t <;> simp [Tr.size]

/-! ### the descent -/
mutual
/-- Operands, connected by signs of a level or of later ones; n: how many nodes there are already. -/
def pB : Nat → Nat → Nat → Nat → List (Cl N) → Option (Tr N × List (Cl N))
  | 0, _, _, _, _ => none
  | F + 1, k, d, n, l => if k < 6 then (match pB F (k + 1) d n l with | none => none | some (t, r) => pL F k d n t r) else pU F d n l
/-- Further signs of the level. -/
def pL : Nat → Nat → Nat → Nat → Tr N → List (Cl N) → Option (Tr N × List (Cl N))
  | 0, _, _, _, _, _ => none
  | F + 1, k, d, n, t, [] => some (t, [])
  | F + 1, k, d, n, t, c :: r => if c.lvl = k + 1 then (match pB F (k + 1) d (n + t.size) r with
      | none => none
      | some (t2, r2) => if n + t.size + t2.size < 60 then pL F k d n (.bin c.kind t t2) r2 else none) else some (t, c :: r)
/-- An operand. -/
def pU : Nat → Nat → Nat → List (Cl N) → Option (Tr N × List (Cl N))
  | 0, _, _, _ => none
  | F + 1, d, n, [] => none
  | F + 1, d, n, c :: r => match c with
    | .atom a => if n < 60 then some (.atom a, r) else none
    | .lp => if d < 8 then (match pB F 0 (d + 1) n r with
        | some (t, .rp :: r2) => some (t, r2)
        | _ => none) else none
    | c => match c.un with
      | some k => if d < 8 then (match pU F (d + 1) n r with
          | some (t, r2) => if n + t.size < 60 then some (.un k t, r2) else none
          | none => none) else none
      | none => none
end
theorem pB_eq (F k d n : Nat) (l : List (Cl N)) : pB (F + 1) k d n l = if k < 6 then (match pB F (k + 1) d n l with | none => none | some (t, r) => pL F k d n t r) else pU F d n l := by rw [pB]
theorem pL_nil (F k d n : Nat) (t : Tr N) : pL (F + 1) k d n t [] = some (t, []) := by rw [pL]
theorem pL_cons (F k d n : Nat) (t : Tr N) (c : Cl N) (r : List (Cl N)) : pL (F + 1) k d n t (c :: r) = if c.lvl = k + 1 then (match pB F (k + 1) d (n + t.size) r with
      | none => none
      | some (t2, r2) => if n + t.size + t2.size < 60 then pL F k d n (.bin c.kind t t2) r2 else none) else some (t, c :: r) := by rw [pL]
theorem pU_nil (F d n : Nat) : pU (N := N) (F + 1) d n [] = none := by rw [pU]
theorem pU_cons (F d n : Nat) (c : Cl N) (r : List (Cl N)) : pU (F + 1) d n (c :: r) = match c with
    | .atom a => if n < 60 then some (.atom a, r) else none
    | .lp => if d < 8 then (match pB F 0 (d + 1) n r with
        | some (t, .rp :: r2) => some (t, r2)
        | _ => none) else none
    | c => match c.un with
      | some k => if d < 8 then (match pU F (d + 1) n r with
          | some (t, r2) => if n + t.size < 60 then some (.un k t, r2) else none
          | none => none) else none
      | none => none := by cases c <;> simp only [pU]
/-- How much fuel is enough. -/
def mu (k : Nat) (l : List (Cl N)) : Nat := 9 * l.length + (7 - k)

/-! ### what an expression is -/
inductive Der : Nat → Nat → List (Cl N) → Tr N → Prop
  | atom (d : Nat) (a : N) : Der 6 d [.atom a] (.atom a)
  | un (d : Nat) (c : Cl N) (k : Int) (l : List (Cl N)) (t : Tr N) (hc : c.un = some k) (hd : d < 8) (h : Der 6 (d + 1) l t) : Der 6 d (c :: l) (.un k t)
  | par (d : Nat) (l : List (Cl N)) (t : Tr N) (hd : d < 8) (h : Der 0 (d + 1) l t) : Der 6 d (.lp :: (l ++ [.rp])) t
  | up (k d : Nat) (l : List (Cl N)) (t : Tr N) (hk : k < 6) (h : Der (k + 1) d l t) : Der k d l t
  | bin (k d : Nat) (a b : List (Cl N)) (c : Cl N) (ta tb : Tr N) (hk : k < 6) (hc : c.lvl = k + 1) (ha : Der k d a ta) (hb : Der (k + 1) d b tb) : Der k d (a ++ c :: b) (.bin c.kind ta tb)

theorem Der.ne {k d : Nat} {l : List (Cl N)} {t : Tr N} (h : Der k d l t) : 0 < l.length := by
  induction h with
  | atom => simp
  | un => simp
  | par => simp
  | up => assumption
  | bin => simp; omega
theorem Der.le {k d : Nat} {l : List (Cl N)} {t : Tr N} (h : Der k d l t) : k ≤ 6 := by
  cases h <;> omega

/-- The descent makes what is an expression. -/
theorem sound (F : Nat) : (∀ k d n (l : List (Cl N)) t r, k ≤ 6 → pB F k d n l = some (t, r) → ∃ u, l = u ++ r ∧ Der k d u t ∧ n + t.size ≤ 60) ∧
    (∀ k d n t0 (l : List (Cl N)) t r u0, k < 6 → Der k d u0 t0 → n + t0.size ≤ 60 → pL F k d n t0 l = some (t, r) → ∃ u, l = u ++ r ∧ Der k d (u0 ++ u) t ∧ n + t.size ≤ 60) ∧
    (∀ d n (l : List (Cl N)) t r, pU F d n l = some (t, r) → ∃ u, l = u ++ r ∧ Der 6 d u t ∧ n + t.size ≤ 60) := by
  induction F with
  | zero => exact ⟨fun k d n l t r _ h => by simp [pB] at h, fun k d n t0 l t r u0 _ _ _ h => by simp [pL] at h, fun d n l t r h => by simp [pU] at h⟩
  | succ F ih =>
    obtain ⟨ihB, ihL, ihU⟩ := ih
    refine ⟨fun k d n l t r hk h => ?_, fun k d n t0 l t r u0 hk hD hn h => ?_, fun d n l t r h => ?_⟩
    · unfold pB at h
      split at h
      · rename_i hk6
        split at h
        · simp at h
        · rename_i t1 r1 h1
          obtain ⟨u1, rfl, d1, s1⟩ := ihB _ _ _ _ _ _ (by omega) h1
          obtain ⟨u2, rfl, d2, s2⟩ := ihL k d n t1 r1 t r u1 hk6 (.up k d u1 t1 hk6 d1) s1 h
          exact ⟨u1 ++ u2, by simp, d2, s2⟩
      · have : k = 6 := by omega
        subst this
        exact ihU _ _ _ _ _ h
    · cases l with
      | nil =>
        simp only [pL, Option.some.injEq, Prod.mk.injEq] at h
        obtain ⟨rfl, rfl⟩ := h
        exact ⟨[], rfl, by simpa using hD, hn⟩
      | cons c l =>
        unfold pL at h
        split at h
        · rename_i hc
          split at h
          · simp at h
          · rename_i t2 r2 h2
            split at h
            · rename_i hs
              obtain ⟨u1, rfl, d1, s1⟩ := ihB _ _ _ _ _ _ (by omega) h2
              have hD2 := Der.bin k d u0 u1 c t0 t2 hk hc hD d1
              obtain ⟨u2, rfl, d2, s2⟩ := ihL k d n _ r2 t r (u0 ++ c :: u1) hk hD2 (by simp only [Tr.size]; omega) h
              exact ⟨c :: (u1 ++ u2), by simp, by simpa using d2, s2⟩
            · simp at h
        · simp only [Option.some.injEq, Prod.mk.injEq] at h
          obtain ⟨rfl, rfl⟩ := h
          exact ⟨[], rfl, by simpa using hD, hn⟩
    · cases l with
      | nil => simp [pU] at h
      | cons c l =>
        unfold pU at h
        split at h
        · rename_i a
          split at h
          · simp only [Option.some.injEq, Prod.mk.injEq] at h
            obtain ⟨rfl, rfl⟩ := h
            exact ⟨[.atom a], rfl, .atom d a, by simp only [Tr.size]; omega⟩
          · simp at h
        · split at h
          · rename_i hd
            split at h
            · rename_i t1 r1 h1
              simp only [Option.some.injEq, Prod.mk.injEq] at h
              obtain ⟨rfl, rfl⟩ := h
              obtain ⟨u1, rfl, d1, s1⟩ := ihB _ _ _ _ _ _ (by omega) h1
              exact ⟨.lp :: (u1 ++ [.rp]), by simp, .par d u1 t1 hd d1, s1⟩
            · simp at h
          · simp at h
        · split at h
          · rename_i k hun
            split at h
            · rename_i hd
              split at h
              · rename_i t1 r1 h1
                split at h
                · rename_i hs
                  simp only [Option.some.injEq, Prod.mk.injEq] at h
                  obtain ⟨rfl, rfl⟩ := h
                  obtain ⟨u1, rfl, d1, s1⟩ := ihU _ _ _ _ _ h1
                  exact ⟨c :: u1, by simp, .un d c k u1 t1 hun hd d1, by simp only [Tr.size]; omega⟩
                · simp at h
              · simp at h
            · simp at h
          · simp at h

/-- More fuel changes nothing. -/
theorem fuel_more (F : Nat) : (∀ k d n (l : List (Cl N)), k ≤ 6 → mu k l < F → pB (F + 1) k d n l = pB F k d n l) ∧
    (∀ k d n t0 (l : List (Cl N)), k < 6 → 9 * l.length < F → pL (F + 1) k d n t0 l = pL F k d n t0 l) ∧
    (∀ d n (l : List (Cl N)), 9 * l.length < F → pU (F + 1) d n l = pU F d n l) := by
  induction F with
  | zero => exact ⟨fun k d n l _ h => by omega, fun k d n t0 l _ h => by omega, fun d n l h => by omega⟩
  | succ F ih =>
    obtain ⟨ihB, ihL, ihU⟩ := ih
    have short : ∀ k d n (l : List (Cl N)) t r, k ≤ 6 → pB F k d n l = some (t, r) → r.length < l.length := fun k d n l t r hk h => by
      obtain ⟨u, rfl, hD, _⟩ := (sound F).1 k d n l t r hk h
      have := hD.ne
      simp; omega
    refine ⟨fun k d n l hk h => ?_, fun k d n t0 l hk h => ?_, fun d n l h => ?_⟩
    · unfold mu at h
      rw [pB_eq (F + 1) k d n l, pB_eq F k d n l]
      split
      · rename_i hk6
        rw [ihB (k + 1) d n l (by omega) (by unfold mu; omega)]
        split
        · rfl
        · rename_i t r h1
          have := short _ _ _ _ _ _ (by omega) h1
          exact ihL k d n t r hk6 (by omega)
      · exact ihU d n l (by omega)
    · cases l with
      | nil => rw [pL_nil, pL_nil]
      | cons c l =>
        simp only [List.length_cons] at h
        rw [pL_cons (F + 1) k d n t0 c l, pL_cons F k d n t0 c l]
        split
        · rw [ihB (k + 1) d _ l (by omega) (by unfold mu; omega)]
          split
          · rfl
          · rename_i t2 r2 h2
            have := short _ _ _ _ _ _ (by omega) h2
            split
            · exact ihL k d n _ r2 hk (by omega)
            · rfl
        · rfl
    · cases l with
      | nil => rw [pU_nil, pU_nil]
      | cons c l =>
        simp only [List.length_cons] at h
        rw [pU_cons (F + 1) d n c l, pU_cons F d n c l]
        split
        · rfl
        · rw [ihB 0 (d + 1) n l (by omega) (by unfold mu; omega)]
        · rw [ihU (d + 1) n l (by omega)]
theorem fuelB {k d n : Nat} {l : List (Cl N)} (hk : k ≤ 6) {F : Nat} (h : mu k l < F) : ∀ e, pB (F + e) k d n l = pB F k d n l
  | 0 => rfl
  | e + 1 => by rw [← Nat.add_assoc, (fuel_more (F + e)).1 k d n l hk (by omega), fuelB hk h e]
theorem fuelL {k d n : Nat} {t : Tr N} {l : List (Cl N)} (hk : k < 6) {F : Nat} (h : 9 * l.length < F) : ∀ e, pL (F + e) k d n t l = pL F k d n t l
  | 0 => rfl
  | e + 1 => by rw [← Nat.add_assoc, (fuel_more (F + e)).2.1 k d n t l hk (by omega), fuelL hk h e]
theorem fuelU {d n : Nat} {l : List (Cl N)} {F : Nat} (h : 9 * l.length < F) : ∀ e, pU (F + e) d n l = pU F d n l
  | 0 => rfl
  | e + 1 => by rw [← Nat.add_assoc, (fuel_more (F + e)).2.2 d n l (by omega), fuelU h e]
theorem fuelB' {k d n : Nat} {l : List (Cl N)} (hk : k ≤ 6) {F G : Nat} (h : mu k l < F) (h' : mu k l < G) : pB F k d n l = pB G k d n l := by
  rcases Nat.le_total F G with hh | hh
  · rw [← fuelB hk h (G - F), show F + (G - F) = G by omega]
  · rw [← fuelB hk h' (F - G), show G + (F - G) = F by omega]
theorem fuelL' {k d n : Nat} {t : Tr N} {l : List (Cl N)} (hk : k < 6) {F G : Nat} (h : 9 * l.length < F) (h' : 9 * l.length < G) : pL F k d n t l = pL G k d n t l := by
  rcases Nat.le_total F G with hh | hh
  · rw [← fuelL hk h (G - F), show F + (G - F) = G by omega]
  · rw [← fuelL hk h' (F - G), show G + (F - G) = F by omega]
theorem fuelU' {d n : Nat} {l : List (Cl N)} {F G : Nat} (h : 9 * l.length < F) (h' : 9 * l.length < G) : pU F d n l = pU G d n l := by
  rcases Nat.le_total F G with hh | hh
  · rw [← fuelU h (G - F), show F + (G - F) = G by omega]
  · rw [← fuelU h' (F - G), show G + (F - G) = F by omega]

/-- What may follow, so that the descent stops. -/
def stops (k : Nat) (r : List (Cl N)) : Prop := ∀ c, r.head? = some c → c.lvl ≤ k
theorem pL_stop {F k d n : Nat} {t : Tr N} {r : List (Cl N)} (h : stops k r) (hF : 0 < F) : pL F k d n t r = some (t, r) := by
  cases F with
  | zero => omega
  | succ F =>
    cases r with
    | nil => rw [pL_nil]
    | cons c r =>
      have := h c rfl
      rw [pL_cons, if_neg (by omega)]
theorem Der.len {k d : Nat} {l : List (Cl N)} {t : Tr N} (h : Der k d l t) : 1 ≤ l.length := h.ne

/-- The descent accepts what is an expression. -/
theorem complete {k d : Nat} {u : List (Cl N)} {t : Tr N} (h : Der k d u t) : ∀ (n : Nat) (r : List (Cl N)) (F : Nat), n + t.size ≤ 60 →
    (k = 6 → 9 * (u ++ r).length < F → pU F d n (u ++ r) = some (t, r)) ∧ (k < 6 → mu k (u ++ r) < F → stops (k + 1) r → pB F k d n (u ++ r) = pL F k d n t r) := by
  induction h with
  | atom d a =>
    intro n r F hn
    refine ⟨fun _ hF => ?_, fun h => by omega⟩
    cases F with
    | zero => omega
    | succ F => 
      simp only [Tr.size] at hn
      simp only [List.cons_append, List.nil_append, pU, if_pos (show n < 60 by omega)]
  | un d c k l t hc hd h ih =>
    intro n r F hn
    refine ⟨fun _ hF => ?_, fun h => by omega⟩
    cases F with
    | zero => omega
    | succ F =>
      simp only [Tr.size] at hn
      have h1 := (ih n r F (by omega)).1 rfl (by simp at hF ⊢; omega)
      cases c with
      | tilde =>
        simp only [Cl.un, Option.some.injEq] at hc
        subst hc
        simp only [List.cons_append, pU, Cl.un, if_pos hd, h1, if_pos (show n + t.size < 60 by omega)]
      | bin lv kd =>
        simp only [List.cons_append, pU, hc, if_pos hd, h1, if_pos (show n + t.size < 60 by omega)]
      | _ => simp [Cl.un] at hc
  | par d l t hd h ih =>
    intro n r F hn
    refine ⟨fun _ hF => ?_, fun h => by omega⟩
    cases F with
    | zero => omega
    | succ F =>
      have hm : mu 0 (l ++ (.rp :: r)) < F := by unfold mu; simp at hF ⊢; omega
      have h1 := (ih n (.rp :: r) F hn).2 (by omega) hm (fun c hc => by simp at hc; subst hc; simp [Cl.lvl])
      rw [pL_stop (fun c hc => by simp at hc; subst hc; simp [Cl.lvl]) (by omega)] at h1
      simp only [List.cons_append, List.append_assoc, List.nil_append, pU, if_pos hd, h1]
  | up k d l t hk h ih =>
    intro n r F hn
    refine ⟨fun h => by omega, fun _ hF hs => ?_⟩
    cases F with
    | zero => omega
    | succ F =>
      have h9 : 9 * r.length < F := by unfold mu at hF; simp at hF; have := h.len; omega
      rw [pB_eq, if_pos hk, ← fuelL' hk h9 (show 9 * r.length < F + 1 by omega)]
      by_cases h6 : k + 1 < 6
      · have h1 := (ih n r F hn).2 h6 (by unfold mu at hF ⊢; omega) (fun c hc => by have := hs c hc; omega)
        rw [pL_stop (fun c hc => hs c hc) (by omega)] at h1
        rw [h1]
      · have e : k + 1 = 6 := by omega
        cases F with
        | zero => omega
        | succ F =>
          have h1 := (ih n r F hn).1 e (by unfold mu at hF; omega)
          rw [pB_eq, if_neg (by omega), h1]
  | bin k d a b c ta tb hk hc ha hb iha ihb =>
    intro n r F hn
    refine ⟨fun h => by omega, fun _ hF hs => ?_⟩
    simp only [Tr.size] at hn
    have e : (a ++ c :: b) ++ r = a ++ (c :: (b ++ r)) := by simp
    rw [e] at hF ⊢
    have hal := ha.len
    rw [(iha n (c :: (b ++ r)) F (by omega)).2 hk hF (fun c' hc' => by simp at hc'; subst hc'; omega)]
    cases F with
    | zero => omega
    | succ F =>
      unfold mu at hF
      simp only [List.length_append, List.length_cons] at hF
      have h1 : pB F (k + 1) d (n + ta.size) (b ++ r) = some (tb, r) := by
        by_cases h6 : k + 1 < 6
        · rw [(ihb (n + ta.size) r F (by omega)).2 h6 (by unfold mu; simp; omega) (fun c hc => by have := hs c hc; omega)]
          exact pL_stop (fun c hc => hs c hc) (by omega)
        · have e : k + 1 = 6 := by omega
          cases F with
          | zero => omega
          | succ F =>
            rw [pB_eq, if_neg (by omega)]
            exact (ihb (n + ta.size) r F (by omega)).1 e (by simp; omega)
      rw [pL_cons, if_pos hc, h1]
      simp only
      rw [if_pos (by omega)]
      exact fuelL' hk (by omega) (by omega)
end Go.Proofs.YtkgdkommahgakaaDoor.Gram

/- The plain law of expressions, second part: the division at the last weakest sign. -/
namespace Go.Proofs.YtkgdkommahgakaaDoor.Gram
set_option linter.unusedVariables false
variable {N : Type}

def Cl.par (c : Cl N) : Int := if c.isL then 1 else if c.isR then -1 else 0
def net : List (Cl N) → Int
  | [] => 0
  | c :: l => c.par + net l
def lastEnds (l : List (Cl N)) : Bool := match l.getLast? with | some c => c.ends | none => false
theorem net_append (a b : List (Cl N)) : net (a ++ b) = net a + net b := by
  induction a with
  | nil => simp [net]
  | cons c a ih => simp only [List.cons_append, net, ih]; omega
theorem lastEnds_append {a b : List (Cl N)} (h : b ≠ []) : lastEnds (a ++ b) = lastEnds b := by
  unfold lastEnds
  rw [List.getLast?_append]
  cases hb : b.getLast? with
  | none => exact absurd (List.getLast?_eq_none_iff.1 hb) h
  | some c => rfl
theorem lastEnds_cons {c : Cl N} {b : List (Cl N)} (h : b ≠ []) : lastEnds (c :: b) = lastEnds b := lastEnds_append (a := [c]) h
theorem lastEnds_one (c : Cl N) : lastEnds [c] = c.ends := rfl
theorem lastEnds_ne {l : List (Cl N)} (h : lastEnds l = true) : l ≠ [] := by
  rintro rfl
  simp [lastEnds] at h
theorem lvl_par {c : Cl N} (h : 0 < c.lvl) : c.par = 0 ∧ c.ends = false := by
  cases c <;> simp [Cl.lvl, Cl.par, Cl.isL, Cl.isR, Cl.ends] at h ⊢
theorem un_par {c : Cl N} {k : Int} (h : c.un = some k) : c.par = 0 ∧ c.ends = false := by
  cases c <;> simp [Cl.un, Cl.par, Cl.isL, Cl.isR, Cl.ends] at h ⊢

/-- A sign between operands, outside of parentheses. -/
structure Cand (l p : List (Cl N)) (c : Cl N) (q : List (Cl N)) : Prop where
  eq : l = p ++ c :: q
  net : net p = 0
  ends : lastEnds p = true
  lvl : 0 < c.lvl

/-- The last weakest one of them. -/
def better (b : Option (Nat × Nat)) (v : Nat) : Bool := match b with | none => true | some (_, m) => decide (v ≤ m)
def scan : List (Cl N) → Nat → Int → Bool → Option (Nat × Nat) → Option (Nat × Nat)
  | [], _, _, _, b => b
  | c :: l, i, o, e, b => scan l (i + 1) (o + c.par) c.ends (if o + c.par = 0 ∧ e = true ∧ 0 < c.lvl ∧ better b c.lvl = true then some (i, c.lvl) else b)
def nd : Nat → Nat → List (Cl N) → Option (Tr N)
  | 0, _, _ => none
  | F + 1, d, l => if l.length = 0 ∨ 8 < d then none else
      match scan l 0 0 false none with
      | some (b, _) => (match nd F d (l.take b) with
        | none => none
        | some ta => match nd F d (l.drop (b + 1)) with
          | none => none
          | some tb => some (.bin (l.getD b .other).kind ta tb))
      | none => match l with
        | [] => none
        | c :: r => match c.un with
          | some k => (match nd F (d + 1) r with | none => none | some t => some (.un k t))
          | none => if c.isL = true ∧ (r.getLast?.map Cl.isR) = some true ∧ 1 < r.length then nd F (d + 1) r.dropLast else
              match c, r with
              | .atom a, [] => some (.atom a)
              | _, _ => none

def BestAt (l p : List (Cl N)) : Option (Nat × Nat) → Prop
  | none => ∀ p' c' q', Cand l p' c' q' → p.length ≤ p'.length
  | some (b, m) => ∃ p1 c1 q1, Cand l p1 c1 q1 ∧ p1.length = b ∧ b < p.length ∧ c1.lvl = m ∧ ∀ p' c' q', Cand l p' c' q' → p'.length < p.length → m ≤ c'.lvl ∧ (b < p'.length → m < c'.lvl)
theorem split_eq {α : Type} {p p' : List α} {c c' : α} {q q' : List α} (h : p ++ c :: q = p' ++ c' :: q') (hl : p.length = p'.length) : p = p' ∧ c = c' ∧ q = q' := by
  have := List.append_inj h hl
  simp only [List.cons.injEq] at this
  exact ⟨this.1, this.2.1, this.2.2⟩
theorem scan_best (l : List (Cl N)) : ∀ (q p : List (Cl N)) (b : Option (Nat × Nat)), l = p ++ q → BestAt l p b → BestAt l l (scan q p.length (net p) (lastEnds p) b)
  | [], p, b, h, hb => by
    have : l = p := by simpa using h
    rw [scan, this]
    rw [this] at hb
    exact hb
  | c :: q, p, b, h, hb => by
    rw [scan]
    have hl : (p ++ [c]).length = p.length + 1 := by simp
    have e1 : net (p ++ [c]) = net p + c.par := by rw [net_append]; simp [net]
    have e2 : lastEnds (p ++ [c]) = c.ends := by rw [lastEnds_append (by simp)]; rfl
    rw [← hl, ← e1, ← e2]
    refine scan_best l q (p ++ [c]) _ (by simp [h]) ?_
    split
    · rename_i hc
      obtain ⟨h1, h2, h3, h4⟩ := hc
      have hcand : Cand l p c q := ⟨h, by have := (lvl_par h3).1; rw [e1] at h1; omega, h2, h3⟩
      refine ⟨p, c, q, hcand, rfl, by simp, rfl, fun p' c' q' hC hlt => ?_⟩
      rw [hl] at hlt
      by_cases hpp : p'.length = p.length
      · obtain ⟨rfl, rfl, rfl⟩ := split_eq (hC.eq.symm.trans h) hpp
        exact ⟨Nat.le_refl _, fun hh => by omega⟩
      · refine ⟨?_, fun hh => by omega⟩
        cases b with
        | none =>
          have := hb p' c' q' hC
          omega
        | some bm =>
          obtain ⟨b0, m0⟩ := bm
          obtain ⟨p1, c1, q1, k1, k2, k3, k4, k5⟩ := hb
          have := (k5 p' c' q' hC (by omega)).1
          simp only [better, decide_eq_true_eq] at h4
          omega
    · rename_i hc
      have key : ∀ p' c' q', Cand l p' c' q' → p'.length = p.length → c' = c ∧ (net (p ++ [c]) = 0 ∧ lastEnds p = true ∧ 0 < c.lvl) := fun p' c' q' hC hpp => by
        obtain ⟨rfl, rfl, rfl⟩ := split_eq (hC.eq.symm.trans h) hpp
        refine ⟨rfl, ?_, hC.ends, hC.lvl⟩
        rw [e1, hC.net, (lvl_par hC.lvl).1]
        rfl
      cases b with
      | none =>
        intro p' c' q' hC
        have := hb p' c' q' hC
        rw [hl]
        by_cases hpp : p'.length = p.length
        · obtain ⟨rfl, k1, k2, k3⟩ := key p' c' q' hC hpp
          exact absurd ⟨k1, k2, k3, rfl⟩ hc
        · omega
      | some bm =>
        obtain ⟨b0, m0⟩ := bm
        obtain ⟨p1, c1, q1, k1, k2, k3, k4, k5⟩ := hb
        refine ⟨p1, c1, q1, k1, k2, by rw [hl]; omega, k4, fun p' c' q' hC hlt => ?_⟩
        rw [hl] at hlt
        by_cases hpp : p'.length = p.length
        · obtain ⟨rfl, j1, j2, j3⟩ := key p' c' q' hC hpp
          have : ¬ better (some (b0, m0)) c'.lvl = true := fun hh => hc ⟨j1, j2, j3, hh⟩
          simp only [better, decide_eq_true_eq] at this
          omega
        · exact k5 p' c' q' hC (by omega)
theorem scan_none {l : List (Cl N)} (h : scan l 0 0 false none = none) : ∀ p c q, ¬ Cand l p c q := fun p c q hC => by
  have := scan_best l l [] none rfl (fun _ _ _ _ => Nat.zero_le _)
  simp only [List.length_nil, net, show lastEnds ([] : List (Cl N)) = false from rfl, h] at this
  have h1 := this p c q hC
  have h2 := congrArg List.length hC.eq
  simp at h2
  omega
theorem scan_some {l : List (Cl N)} {b m : Nat} (h : scan l 0 0 false none = some (b, m)) : ∃ p c q, Cand l p c q ∧ p.length = b ∧ c.lvl = m ∧ ∀ p' c' q', Cand l p' c' q' → m ≤ c'.lvl ∧ (b < p'.length → m < c'.lvl) := by
  have := scan_best l l [] none rfl (fun _ _ _ _ => Nat.zero_le _)
  simp only [List.length_nil, net, show lastEnds ([] : List (Cl N)) = false from rfl, h] at this
  obtain ⟨p, c, q, k1, k2, k3, k4, k5⟩ := this
  refine ⟨p, c, q, k1, k2, k4, fun p' c' q' hC => k5 p' c' q' hC ?_⟩
  have h2 := congrArg List.length hC.eq
  simp at h2
  omega

/-! ### signs in what is an expression -/
theorem Der.down {k d : Nat} {l : List (Cl N)} {t : Tr N} (h : Der k d l t) : ∀ j, j ≤ k → Der j d l t := by
  have : ∀ e j, j + e = k → Der j d l t := by
    intro e
    induction e with
    | zero => intro j hj; have : j = k := by omega
              subst this; exact h
    | succ e ih => intro j hj; have := h.le; exact .up j d l t (by omega) (ih (j + 1) (by omega))
  exact fun j hj => this (k - j) j (by omega)
theorem Der.top {k d : Nat} {l : List (Cl N)} {t : Tr N} (h : Der k d l t) : Der 6 d l t ∨ ∃ j a b c ta tb, k ≤ j ∧ j < 6 ∧ c.lvl = j + 1 ∧ Der j d a ta ∧ Der (j + 1) d b tb ∧ l = a ++ c :: b ∧ t = .bin c.kind ta tb := by
  induction h with
  | atom d a => exact .inl (.atom d a)
  | un d c k l t hc hd h _ => exact .inl (.un d c k l t hc hd h)
  | par d l t hd h _ => exact .inl (.par d l t hd h)
  | up k d l t hk h ih =>
    rcases ih with h1 | ⟨j, a, b, c, ta, tb, h1, h2⟩
    · exact .inl h1
    · exact .inr ⟨j, a, b, c, ta, tb, by omega, h2⟩
  | bin k d a b c ta tb hk hc ha hb _ _ => exact .inr ⟨k, a, b, c, ta, tb, Nat.le_refl _, hk, hc, ha, hb, rfl, rfl⟩
theorem Der.net {k d : Nat} {l : List (Cl N)} {t : Tr N} (h : Der k d l t) : Gram.net l = 0 ∧ lastEnds l = true ∧ ∀ p q, l = p ++ q → 0 ≤ Gram.net p := by
  induction h with
  | atom d a =>
    refine ⟨rfl, rfl, fun p q h => ?_⟩
    cases p with
    | nil => simp [Gram.net]
    | cons c p =>
      simp only [List.cons_append, List.cons.injEq] at h
      obtain ⟨rfl, h⟩ := h
      have := List.append_eq_nil_iff.1 h.symm
      rw [this.1]
      simp [Gram.net, Cl.par, Cl.isL, Cl.isR]
  | un d c k l t hc hd h ih =>
    obtain ⟨i1, i2, i3⟩ := ih
    have hp := un_par hc
    refine ⟨by rw [Gram.net, hp.1, i1]; rfl, by rw [lastEnds_cons (lastEnds_ne i2)]; exact i2, fun p q h => ?_⟩
    cases p with
    | nil => simp [Gram.net]
    | cons c' p =>
      simp only [List.cons_append, List.cons.injEq] at h
      obtain ⟨rfl, h⟩ := h
      have := i3 p q h
      rw [Gram.net, hp.1]
      omega
  | par d l t hd h ih =>
    obtain ⟨i1, i2, i3⟩ := ih
    refine ⟨?_, ?_, fun p q h => ?_⟩
    · rw [Gram.net, net_append, i1]
      simp [Gram.net, Cl.par, Cl.isL, Cl.isR]
    · rw [lastEnds_cons (by simp), lastEnds_append (by simp)]
      rfl
    · cases p with
      | nil => simp [Gram.net]
      | cons c' p =>
        simp only [List.cons_append, List.cons.injEq] at h
        obtain ⟨rfl, h⟩ := h
        rw [Gram.net]
        have hlp : (Cl.lp : Cl N).par = 1 := rfl
        rw [hlp]
        rcases List.append_eq_append_iff.1 h with ⟨w, h1, h2⟩ | ⟨w, h1, h2⟩
        · rw [h1, net_append, i1]
          cases w with
          | nil => simp [Gram.net]
          | cons x w =>
            simp only [List.cons_append, List.cons.injEq] at h2
            obtain ⟨rfl, h2⟩ := h2
            have := List.append_eq_nil_iff.1 h2.symm
            rw [this.1]
            simp [Gram.net, Cl.par, Cl.isL, Cl.isR]
        · have := i3 p w h1
          omega
  | up k d l t hk h ih => exact ih
  | bin k d a b c ta tb hk hc ha hb iha ihb =>
    obtain ⟨a1, a2, a3⟩ := iha
    obtain ⟨b1, b2, b3⟩ := ihb
    have hp := lvl_par (c := c) (by omega)
    refine ⟨by rw [net_append, Gram.net, a1, b1, hp.1]; rfl, ?_, fun p q h => ?_⟩
    · rw [lastEnds_append (by simp), lastEnds_cons (lastEnds_ne b2)]
      exact b2
    · rcases List.append_eq_append_iff.1 h with ⟨w, h1, h2⟩ | ⟨w, h1, h2⟩
      · rw [h1, net_append, a1]
        cases w with
        | nil => simp [Gram.net]
        | cons x w =>
          simp only [List.cons_append, List.cons.injEq] at h2
          obtain ⟨rfl, h2⟩ := h2
          have := b3 w q h2
          rw [Gram.net, hp.1]
          omega
      · exact a3 p w h1
theorem Der.cands {k d : Nat} {l : List (Cl N)} {t : Tr N} (h : Der k d l t) : ∀ p c q, Cand l p c q → k < 6 ∧ k < c.lvl := by
  induction h with
  | atom d a =>
    intro p c q hC
    have h1 := congrArg List.length hC.eq
    simp at h1
    exact absurd (List.eq_nil_of_length_eq_zero (by omega)) (lastEnds_ne hC.ends)
  | un d c k l t hc hd h ih =>
    intro p x q hC
    have hp := un_par hc
    have hne := lastEnds_ne hC.ends
    cases p with
    | nil => simp at hne
    | cons y p =>
      have he := hC.eq
      simp only [List.cons_append, List.cons.injEq] at he
      obtain ⟨rfl, he⟩ := he
      have hn := hC.net
      rw [Gram.net, hp.1] at hn
      have hE := hC.ends
      cases p with
      | nil => rw [lastEnds_one, hp.2] at hE; simp at hE
      | cons z p =>
        rw [lastEnds_cons (by simp)] at hE
        exact ih (z :: p) x q ⟨he, by omega, hE, hC.lvl⟩
  | par d l t hd h ih =>
    intro p x q hC
    have hne := lastEnds_ne hC.ends
    cases p with
    | nil => simp at hne
    | cons y p =>
      have he := hC.eq
      simp only [List.cons_append, List.cons.injEq] at he
      obtain ⟨rfl, he⟩ := he
      have hn := hC.net
      rw [Gram.net] at hn
      have hlp : (Cl.lp : Cl N).par = 1 := rfl
      rw [hlp] at hn
      exfalso
      have hpre := h.net.2.2
      rcases List.append_eq_append_iff.1 he with ⟨w, h1, h2⟩ | ⟨w, h1, h2⟩
      · cases w with
        | nil =>
          have := hpre p [] (by simpa using h1.symm)
          omega
        | cons z w =>
          simp only [List.cons_append, List.cons.injEq] at h2
          have := List.append_eq_nil_iff.1 h2.2.symm
          simp at this
      · have := hpre p w h1
        omega
  | up k d l t hk h ih =>
    intro p x q hC
    have := ih p x q hC
    omega
  | bin k d a b c ta tb hk hc ha hb iha ihb =>
    intro p x q hC
    refine ⟨hk, ?_⟩
    have hp := lvl_par (c := c) (by omega)
    rcases List.append_eq_append_iff.1 hC.eq with ⟨w, h1, h2⟩ | ⟨w, h1, h2⟩
    · cases w with
      | nil =>
        simp only [List.nil_append, List.cons.injEq] at h2
        rw [← h2.1]
        omega
      | cons z w =>
        simp only [List.cons_append, List.cons.injEq] at h2
        obtain ⟨rfl, h2⟩ := h2
        have hn := hC.net
        have hE := hC.ends
        rw [h1] at hn hE
        rw [net_append, Gram.net, ha.net.1, hp.1] at hn
        rw [lastEnds_append (by simp)] at hE
        cases w with
        | nil => rw [lastEnds_one, hp.2] at hE; simp at hE
        | cons y w =>
          rw [lastEnds_cons (by simp)] at hE
          have := (ihb (y :: w) x q ⟨h2, by omega, hE, hC.lvl⟩).2
          omega
    · cases w with
      | nil =>
        simp only [List.nil_append, List.cons.injEq] at h2
        rw [h2.1]
        omega
      | cons z w =>
        simp only [List.cons_append, List.cons.injEq] at h2
        obtain ⟨rfl, h2⟩ := h2
        exact (iha p x w ⟨h1, hC.net, hC.ends, hC.lvl⟩).2
/-- An expression without signs weaker than a level is one of that level. -/
theorem Der.lift {d : Nat} {l : List (Cl N)} {t : Tr N} (h : Der 0 d l t) {k : Nat} (hk : k ≤ 6) (hc : ∀ p c q, Cand l p c q → k < c.lvl) : Der k d l t := by
  rcases h.top with h1 | ⟨j, a, b, c, ta, tb, h1, h2, h3, h4, h5, rfl, rfl⟩
  · exact h1.down k hk
  · have := hc a c b ⟨rfl, h4.net.1, h4.net.2.1, by omega⟩
    exact (Der.bin j d a b c ta tb h2 h3 h4 h5).down k (by omega)

/-- What is divided is an expression. -/
theorem nd_sound : ∀ (F d : Nat) (l : List (Cl N)) (t : Tr N), (∀ c ∈ l, c.ok) → nd F d l = some t → Der 0 d l t ∧ d ≤ 8
  | 0, d, l, t, _, h => by simp [nd] at h
  | F + 1, d, l, t, hok, h => by
    unfold nd at h
    split at h
    · simp at h
    · rename_i hd
      refine ⟨?_, by omega⟩
      split at h
      · rename_i b m hs
        obtain ⟨p, c, q, hC, rfl, rfl, hmin⟩ := scan_some hs
        split at h
        · simp at h
        · rename_i ta hta
          split at h
          · simp at h
          · rename_i tb htb
            simp only [Option.some.injEq] at h
            subst h
            have e1 : l.take p.length = p := by rw [hC.eq, List.take_left]
            have e2 : l.drop (p.length + 1) = q := by
              rw [hC.eq, ← List.drop_drop, List.drop_left]
              rfl
            have e3 : l.getD p.length .other = c := by
              rw [List.getD_eq_getElem?_getD, hC.eq, List.getElem?_append_right (Nat.le_refl _)]
              simp
            rw [e1] at hta
            rw [e2] at htb
            rw [e3]
            have ha := (nd_sound F d p ta (fun c hc => hok c (by rw [hC.eq]; simp [hc])) hta).1
            have hb := (nd_sound F d q tb (fun c hc => hok c (by rw [hC.eq]; simp [hc])) htb).1
            have hco := hok c (by rw [hC.eq]; simp)
            have hcl := hC.lvl
            obtain ⟨k, hk, hk6⟩ : ∃ k, c.lvl = k + 1 ∧ k < 6 := by
              cases c with
              | bin lv kd =>
                simp only [Cl.ok] at hco
                exact ⟨lv - 1, by simp only [Cl.lvl]; omega, by omega⟩
              | _ => simp [Cl.lvl] at hcl
            have ha' : Der k d p ta := ha.lift (by omega) fun p' c' q' hC' => by
              have := (hmin p' c' (q' ++ c :: q) ⟨by rw [hC.eq, hC'.eq]; simp, hC'.net, hC'.ends, hC'.lvl⟩).1
              omega
            have hb' : Der (k + 1) d q tb := hb.lift (by omega) fun p' c' q' hC' => by
              have hne := lastEnds_ne hC'.ends
              have := (hmin (p ++ c :: p') c' q' ⟨by rw [hC.eq, hC'.eq]; simp, by rw [net_append, Gram.net, hC.net, hC'.net, (lvl_par hC.lvl).1]; rfl, by rw [lastEnds_append (by simp), lastEnds_cons hne]; exact hC'.ends, hC'.lvl⟩).2 (by simp)
              omega
            have := Der.bin k d p q c ta tb hk6 hk ha' hb'
            rw [← hC.eq] at this
            exact this.down 0 (by omega)
      · rename_i hs
        have hno := scan_none hs
        split at h
        · simp at h
        · rename_i c r
          split at h
          · rename_i k hun
            split at h
            · simp at h
            · rename_i t1 ht1
              simp only [Option.some.injEq] at h
              subst h
              obtain ⟨h1, h2⟩ := nd_sound F (d + 1) r t1 (fun c hc => hok c (by simp [hc])) ht1
              have h6 : Der 6 (d + 1) r t1 := h1.lift (by omega) fun p x q hC => by
                refine absurd ?_ (hno (c :: p) x q)
                exact ⟨by rw [hC.eq]; rfl, by rw [Gram.net, (un_par hun).1, hC.net]; rfl, by rw [lastEnds_cons (lastEnds_ne hC.ends)]; exact hC.ends, hC.lvl⟩
              exact (Der.un d c k r t1 hun (by omega) h6).down 0 (by omega)
          · split at h
            · rename_i hpar
              obtain ⟨g1, g2, g3⟩ := hpar
              obtain ⟨h1, h2⟩ := nd_sound F (d + 1) r.dropLast t (fun c hc => hok c (List.mem_cons_of_mem _ (List.dropLast_subset _ hc))) h
              have hr : r = r.dropLast ++ [.rp] := by
                have hne : r ≠ [] := by intro e; subst e; simp at g3
                rw [List.getLast?_eq_some_getLast hne] at g2
                simp only [Option.map_some, Option.some.injEq] at g2
                have := (List.dropLast_concat_getLast hne).symm
                cases hl : r.getLast hne with
                | rp => rw [hl] at this; exact this
                | _ => rw [hl] at g2; simp [Cl.isR] at g2
              have hc : c = .lp := by
                cases c with
                | lp => rfl
                | _ => simp [Cl.isL] at g1
              rw [hr, hc]
              exact (Der.par d r.dropLast t (by omega) h1).down 0 (by omega)
            · split at h
              · simp only [Option.some.injEq] at h
                subst h
                exact (Der.atom d _).down 0 (by omega)
              · simp at h

/-- What is an expression is divided. -/
theorem nd_complete : ∀ (F : Nat) {d : Nat} {l : List (Cl N)} {t : Tr N}, Der 0 d l t → d ≤ 8 → l.length < F → nd F d l = some t
  | 0, _, _, _, _, _, h => by omega
  | F + 1, d, l, t, hD, hd, hF => by
    have hne := hD.ne
    unfold nd
    rw [if_neg (by omega)]
    have no_scan : Der 6 d l t → scan l 0 0 false none = none := fun h6 => by
      cases hs : scan l 0 0 false none with
      | none => rfl
      | some bm =>
        obtain ⟨b, m⟩ := bm
        obtain ⟨p, c, q, hC, _⟩ := scan_some hs
        have := h6.cands p c q hC
        omega
    rcases hD.top with h6 | ⟨j, a, b, c, ta, tb, h1, h2, h3, h4, h5, rfl, rfl⟩
    · rw [no_scan h6]
      cases h6 with
      | atom _ a => rfl
      | un _ c k l' t' hc hd' h' =>
        simp only [hc]
        rw [nd_complete F (h'.down 0 (by omega)) (by omega) (by simp at hF; omega)]
      | par _ l' t' hd' h' =>
        have hl := h'.ne
        simp only [Cl.un, Cl.isL, List.getLast?_append, List.getLast?_singleton, Option.some_or, Option.map_some, Cl.isR, List.length_append, List.length_cons, List.length_nil, List.dropLast_concat, true_and]
        rw [if_pos (by omega)]
        exact nd_complete F h' (by omega) (by simp at hF; omega)
      | up _ _ _ _ hk _ => omega
      | bin _ _ _ _ _ _ _ hk _ _ _ => omega
    · have hC : Cand (a ++ c :: b) a c b := ⟨rfl, h4.net.1, h4.net.2.1, by omega⟩
      cases hs : scan (a ++ c :: b) 0 0 false none with
      | none => exact absurd hC (scan_none hs a c b)
      | some bm =>
        obtain ⟨bb, m⟩ := bm
        obtain ⟨p, x, q, hC2, rfl, rfl, hmin⟩ := scan_some hs
        have m1 := (hmin a c b hC)
        have hpa : p.length = a.length := by
          rcases Nat.lt_trichotomy p.length a.length with hh | hh | hh
          · have h7 := (Der.bin j d a b c ta tb h2 h3 h4 h5).cands p x q hC2
            have := m1.2 hh
            omega
          · exact hh
          · exfalso
            rcases List.append_eq_append_iff.1 hC2.eq with ⟨w, e1, e2⟩ | ⟨w, e1, e2⟩
            · cases w with
              | nil => rw [e1] at hh; simp at hh
              | cons z w =>
                simp only [List.cons_append, List.cons.injEq] at e2
                obtain ⟨rfl, e2⟩ := e2
                have hp := lvl_par (c := c) (by omega)
                have hn := hC2.net
                have hE := hC2.ends
                rw [e1] at hn hE
                rw [net_append, Gram.net, h4.net.1, hp.1] at hn
                rw [lastEnds_append (by simp)] at hE
                cases w with
                | nil => rw [lastEnds_one, hp.2] at hE; simp at hE
                | cons y w =>
                  rw [lastEnds_cons (by simp)] at hE
                  have := h5.cands (y :: w) x q ⟨e2, by omega, hE, hC2.lvl⟩
                  omega
            · have := congrArg List.length e1
              simp at this
              omega
        obtain ⟨rfl, rfl, rfl⟩ := split_eq (hC2.eq.symm) hpa
        simp only [List.take_left, List.length_append, List.length_cons] at hF ⊢
        rw [nd_complete F (h4.down 0 (by omega)) hd (by omega)]
        have e2 : (p ++ x :: q).drop (p.length + 1) = q := by rw [← List.drop_drop, List.drop_left]; rfl
        have e3 : (p ++ x :: q).getD p.length .other = x := by
          rw [List.getD_eq_getElem?_getD, List.getElem?_append_right (Nat.le_refl _)]
          simp
        rw [e2, e3]
        simp only
        rw [nd_complete F (h5.down 0 (by omega)) hd (by omega)]

/-- **Both accept the same lists.** -/
theorem parse_nd {l : List (Cl N)} (hok : ∀ c ∈ l, c.ok) {F G : Nat} (hF : mu 0 l < F) (hG : l.length < G) (t : Tr N) : pB F 0 0 0 l = some (t, []) ↔ nd G 0 l = some t ∧ t.size ≤ 60 := by
  constructor
  · intro h
    obtain ⟨u, hu, hD, hs⟩ := (sound F).1 0 0 0 l t [] (by omega) h
    have : l = u := by simpa using hu
    subst this
    exact ⟨nd_complete G hD (by omega) hG, by omega⟩
  · rintro ⟨h, hs⟩
    have hD := (nd_sound G 0 l t hok h).1
    have h1 := (complete hD 0 [] F (by omega)).2 (by omega) (by simpa using hF) (fun c hc => by simp at hc)
    rw [List.append_nil] at h1
    rw [h1]
    exact pL_stop (fun c hc => by simp at hc) (by omega)
/-- The depth only bounds. -/
theorem nd_depth {G d e : Nat} {l : List (Cl N)} {t t' : Tr N} (hok : ∀ c ∈ l, c.ok) (h : nd G d l = some t) (h' : nd G e l = some t') : t = t' := by
  have shallow : ∀ {k d : Nat} {l : List (Cl N)} {t : Tr N}, Der k d l t → ∀ e, e ≤ d → Der k e l t := by
    intro k d l t h
    induction h with
    | atom d a => exact fun e _ => .atom e a
    | un d c k l t hc hd h ih => exact fun e he => .un e c k l t hc (by omega) (ih (e + 1) (by omega))
    | par d l t hd h ih => exact fun e he => .par e l t (by omega) (ih (e + 1) (by omega))
    | up k d l t hk h ih => exact fun e he => .up k e l t hk (ih e he)
    | bin k d a b c ta tb hk hc ha hb iha ihb => exact fun e he => .bin k e a b c ta tb hk hc (iha e he) (ihb e he)
  have h1 := shallow (nd_sound G d l t hok h).1 0 (Nat.zero_le _)
  have h2 := shallow (nd_sound G e l t' hok h').1 0 (Nat.zero_le _)
  have a1 := nd_complete (l.length + 1) h1 (by omega) (by omega)
  have a2 := nd_complete (l.length + 1) h2 (by omega) (by omega)
  rw [a1] at a2
  exact Option.some.inj a2
end Go.Proofs.YtkgdkommahgakaaDoor.Gram
