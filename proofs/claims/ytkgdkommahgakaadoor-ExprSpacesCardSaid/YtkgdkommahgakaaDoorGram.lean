/- The plain law of expressions: a recursive descent and a division at the last weakest sign accept the same lists, and make the same trees. No program is in sight. -/
import Derived.KernelRfl
namespace Go.Proofs.YtkgdkommahgakaaDoor.Gram
set_option linter.unusedVariables false

/-- What a token is to an expression; N: what an operand is. A binary sign: how strongly it binds (1 to 6), its node's kind. -/
inductive Cl (N : Type) where
  | atom (n : N)
  | lp | rp | tilde
  | bin (lvl : Nat) (kind : Int)
  | other
/-- A tree. -/
inductive Tr (N : Type) where
  | atom (n : N)
  | un (k : Int) (t : Tr N)
  | bin (k : Int) (a b : Tr N)
variable {N : Type}
def Tr.size : Tr N → Nat
  | .atom _ => 1
  | .un _ t => t.size + 1
  | .bin _ a b => a.size + b.size + 1
def Cl.lvl : Cl N → Nat
  | .bin l _ => l
  | _ => 0
def Cl.kind : Cl N → Int
  | .bin _ k => k
  | _ => 0
/-- A sign of one operand, and its node's kind ('-' is the binary sign whose kind is 6, too). -/
def Cl.un : Cl N → Option Int
  | .tilde => some 4
  | .bin _ k => if k = 6 then some 3 else none
  | _ => none
def Cl.isL : Cl N → Bool
  | .lp => true
  | _ => false
def Cl.isR : Cl N → Bool
  | .rp => true
  | _ => false
def Cl.ends : Cl N → Bool
  | .atom _ => true
  | .rp => true
  | _ => false
def Cl.ok : Cl N → Prop
  | .bin l _ => 1 ≤ l ∧ l ≤ 6
  | _ => True
theorem Tr.pos (t : Tr N) : 1 ≤ t.size := by cases t <;> simp [Tr.size]

/-! ### the descent -/
mutual
/-- Operands, connected by signs of a level or of later ones; n: how many nodes there are already. -/
def pB : Nat → Nat → Nat → Nat → List (Cl N) → Option (Tr N × List (Cl N))
  | 0, _, _, _, _ => none
  | F + 1, k, d, n, l => if k < 6 then (match pB F (k + 1) d n l with | none => none | some (t, r) => pL F k d n t r) else pU F d n l
/-- Further signs of the level. -/
def pL : Nat → Nat → Nat → Nat → Tr N → List (Cl N) → Option (Tr N × List (Cl N))
  | 0, _, _, _, _, _ => none
  | F + 1, k, d, n, t, [] => some (t, [])
  | F + 1, k, d, n, t, c :: r => if c.lvl = k + 1 then (match pB F (k + 1) d (n + t.size) r with
      | none => none
      | some (t2, r2) => if n + t.size + t2.size < 60 then pL F k d n (.bin c.kind t t2) r2 else none) else some (t, c :: r)
/-- An operand. -/
def pU : Nat → Nat → Nat → List (Cl N) → Option (Tr N × List (Cl N))
  | 0, _, _, _ => none
  | F + 1, d, n, [] => none
  | F + 1, d, n, c :: r => match c with
    | .atom a => if n < 60 then some (.atom a, r) else none
    | .lp => if d < 8 then (match pB F 0 (d + 1) n r with
        | some (t, .rp :: r2) => some (t, r2)
        | _ => none) else none
    | c => match c.un with
      | some k => if d < 8 then (match pU F (d + 1) n r with
          | some (t, r2) => if n + t.size < 60 then some (.un k t, r2) else none
          | none => none) else none
      | none => none
end
theorem pB_eq (F k d n : Nat) (l : List (Cl N)) : pB (F + 1) k d n l = if k < 6 then (match pB F (k + 1) d n l with | none => none | some (t, r) => pL F k d n t r) else pU F d n l := by rw [pB]
theorem pL_nil (F k d n : Nat) (t : Tr N) : pL (F + 1) k d n t [] = some (t, []) := by rw [pL]
theorem pL_cons (F k d n : Nat) (t : Tr N) (c : Cl N) (r : List (Cl N)) : pL (F + 1) k d n t (c :: r) = if c.lvl = k + 1 then (match pB F (k + 1) d (n + t.size) r with
      | none => none
      | some (t2, r2) => if n + t.size + t2.size < 60 then pL F k d n (.bin c.kind t t2) r2 else none) else some (t, c :: r) := by rw [pL]
theorem pU_nil (F d n : Nat) : pU (N := N) (F + 1) d n [] = none := by rw [pU]
theorem pU_cons (F d n : Nat) (c : Cl N) (r : List (Cl N)) : pU (F + 1) d n (c :: r) = match c with
    | .atom a => if n < 60 then some (.atom a, r) else none
    | .lp => if d < 8 then (match pB F 0 (d + 1) n r with
        | some (t, .rp :: r2) => some (t, r2)
        | _ => none) else none
    | c => match c.un with
      | some k => if d < 8 then (match pU F (d + 1) n r with
          | some (t, r2) => if n + t.size < 60 then some (.un k t, r2) else none
          | none => none) else none
      | none => none := by cases c <;> simp only [pU]
/-- How much fuel is enough. -/
def mu (k : Nat) (l : List (Cl N)) : Nat := 9 * l.length + (7 - k)

/-! ### what an expression is -/
inductive Der : Nat → Nat → List (Cl N) → Tr N → Prop
  | atom (d : Nat) (a : N) : Der 6 d [.atom a] (.atom a)
  | un (d : Nat) (c : Cl N) (k : Int) (l : List (Cl N)) (t : Tr N) (hc : c.un = some k) (hd : d < 8) (h : Der 6 (d + 1) l t) : Der 6 d (c :: l) (.un k t)
  | par (d : Nat) (l : List (Cl N)) (t : Tr N) (hd : d < 8) (h : Der 0 (d + 1) l t) : Der 6 d (.lp :: (l ++ [.rp])) t
  | up (k d : Nat) (l : List (Cl N)) (t : Tr N) (hk : k < 6) (h : Der (k + 1) d l t) : Der k d l t
  | bin (k d : Nat) (a b : List (Cl N)) (c : Cl N) (ta tb : Tr N) (hk : k < 6) (hc : c.lvl = k + 1) (ha : Der k d a ta) (hb : Der (k + 1) d b tb) : Der k d (a ++ c :: b) (.bin c.kind ta tb)

theorem Der.ne {k d : Nat} {l : List (Cl N)} {t : Tr N} (h : Der k d l t) : 0 < l.length := by
  induction h with
  | atom => simp
  | un => simp
  | par => simp
  | up => assumption
  | bin => simp; omega
theorem Der.le {k d : Nat} {l : List (Cl N)} {t : Tr N} (h : Der k d l t) : k ≤ 6 := by
  cases h <;> omega

/-- The descent makes what is an expression. -/
theorem sound (F : Nat) : (∀ k d n (l : List (Cl N)) t r, k ≤ 6 → pB F k d n l = some (t, r) → ∃ u, l = u ++ r ∧ Der k d u t ∧ n + t.size ≤ 60) ∧
    (∀ k d n t0 (l : List (Cl N)) t r u0, k < 6 → Der k d u0 t0 → n + t0.size ≤ 60 → pL F k d n t0 l = some (t, r) → ∃ u, l = u ++ r ∧ Der k d (u0 ++ u) t ∧ n + t.size ≤ 60) ∧
    (∀ d n (l : List (Cl N)) t r, pU F d n l = some (t, r) → ∃ u, l = u ++ r ∧ Der 6 d u t ∧ n + t.size ≤ 60) := by
  induction F with
  | zero => exact ⟨fun k d n l t r _ h => by simp [pB] at h, fun k d n t0 l t r u0 _ _ _ h => by simp [pL] at h, fun d n l t r h => by simp [pU] at h⟩
  | succ F ih =>
    obtain ⟨ihB, ihL, ihU⟩ := ih
    refine ⟨fun k d n l t r hk h => ?_, fun k d n t0 l t r u0 hk hD hn h => ?_, fun d n l t r h => ?_⟩
    · unfold pB at h
      split at h
      · rename_i hk6
        split at h
        · simp at h
        · rename_i t1 r1 h1
          obtain ⟨u1, rfl, d1, s1⟩ := ihB _ _ _ _ _ _ (by omega) h1
          obtain ⟨u2, rfl, d2, s2⟩ := ihL k d n t1 r1 t r u1 hk6 (.up k d u1 t1 hk6 d1) s1 h
          exact ⟨u1 ++ u2, by simp, d2, s2⟩
      · have : k = 6 := by omega
        subst this
        exact ihU _ _ _ _ _ h
    · cases l with
      | nil =>
        simp only [pL, Option.some.injEq, Prod.mk.injEq] at h
        obtain ⟨rfl, rfl⟩ := h
        exact ⟨[], rfl, by simpa using hD, hn⟩
      | cons c l =>
        unfold pL at h
        split at h
        · rename_i hc
          split at h
          · simp at h
          · rename_i t2 r2 h2
            split at h
            · rename_i hs
              obtain ⟨u1, rfl, d1, s1⟩ := ihB _ _ _ _ _ _ (by omega) h2
              have hD2 := Der.bin k d u0 u1 c t0 t2 hk hc hD d1
              obtain ⟨u2, rfl, d2, s2⟩ := ihL k d n _ r2 t r (u0 ++ c :: u1) hk hD2 (by simp only [Tr.size]; omega) h
              exact ⟨c :: (u1 ++ u2), by simp, by simpa using d2, s2⟩
            · simp at h
        · simp only [Option.some.injEq, Prod.mk.injEq] at h
          obtain ⟨rfl, rfl⟩ := h
          exact ⟨[], rfl, by simpa using hD, hn⟩
    · cases l with
      | nil => simp [pU] at h
      | cons c l =>
        unfold pU at h
        split at h
        · rename_i a
          split at h
          · simp only [Option.some.injEq, Prod.mk.injEq] at h
            obtain ⟨rfl, rfl⟩ := h
            exact ⟨[.atom a], rfl, .atom d a, by simp only [Tr.size]; omega⟩
          · simp at h
        · split at h
          · rename_i hd
            split at h
            · rename_i t1 r1 h1
              simp only [Option.some.injEq, Prod.mk.injEq] at h
              obtain ⟨rfl, rfl⟩ := h
              obtain ⟨u1, rfl, d1, s1⟩ := ihB _ _ _ _ _ _ (by omega) h1
              exact ⟨.lp :: (u1 ++ [.rp]), by simp, .par d u1 t1 hd d1, s1⟩
            · simp at h
          · simp at h
        · split at h
          · rename_i k hun
            split at h
            · rename_i hd
              split at h
              · rename_i t1 r1 h1
                split at h
                · rename_i hs
                  simp only [Option.some.injEq, Prod.mk.injEq] at h
                  obtain ⟨rfl, rfl⟩ := h
                  obtain ⟨u1, rfl, d1, s1⟩ := ihU _ _ _ _ _ h1
                  exact ⟨c :: u1, by simp, .un d c k u1 t1 hun hd d1, by simp only [Tr.size]; omega⟩
                · simp at h
              · simp at h
            · simp at h
          · simp at h

/-- More fuel changes nothing. -/
theorem fuel_more (F : Nat) : (∀ k d n (l : List (Cl N)), k ≤ 6 → mu k l < F → pB (F + 1) k d n l = pB F k d n l) ∧
    (∀ k d n t0 (l : List (Cl N)), k < 6 → 9 * l.length < F → pL (F + 1) k d n t0 l = pL F k d n t0 l) ∧
    (∀ d n (l : List (Cl N)), 9 * l.length < F → pU (F + 1) d n l = pU F d n l) := by
  induction F with
  | zero => exact ⟨fun k d n l _ h => by omega, fun k d n t0 l _ h => by omega, fun d n l h => by omega⟩
  | succ F ih =>
    obtain ⟨ihB, ihL, ihU⟩ := ih
    have short : ∀ k d n (l : List (Cl N)) t r, k ≤ 6 → pB F k d n l = some (t, r) → r.length < l.length := fun k d n l t r hk h => by
      obtain ⟨u, rfl, hD, _⟩ := (sound F).1 k d n l t r hk h
      have := hD.ne
      simp; omega
    refine ⟨fun k d n l hk h => ?_, fun k d n t0 l hk h => ?_, fun d n l h => ?_⟩
    · unfold mu at h
      rw [pB_eq (F + 1) k d n l, pB_eq F k d n l]
      split
      · rename_i hk6
        rw [ihB (k + 1) d n l (by omega) (by unfold mu; omega)]
        split
        · rfl
        · rename_i t r h1
          have := short _ _ _ _ _ _ (by omega) h1
          exact ihL k d n t r hk6 (by omega)
      · exact ihU d n l (by omega)
    · cases l with
      | nil => rw [pL_nil, pL_nil]
      | cons c l =>
        simp only [List.length_cons] at h
        rw [pL_cons (F + 1) k d n t0 c l, pL_cons F k d n t0 c l]
        split
        · rw [ihB (k + 1) d _ l (by omega) (by unfold mu; omega)]
          split
          · rfl
          · rename_i t2 r2 h2
            have := short _ _ _ _ _ _ (by omega) h2
            split
            · exact ihL k d n _ r2 hk (by omega)
            · rfl
        · rfl
    · cases l with
      | nil => rw [pU_nil, pU_nil]
      | cons c l =>
        simp only [List.length_cons] at h
        rw [pU_cons (F + 1) d n c l, pU_cons F d n c l]
        split
        · rfl
        · rw [ihB 0 (d + 1) n l (by omega) (by unfold mu; omega)]
        · rw [ihU (d + 1) n l (by omega)]
theorem fuelB {k d n : Nat} {l : List (Cl N)} (hk : k ≤ 6) {F : Nat} (h : mu k l < F) : ∀ e, pB (F + e) k d n l = pB F k d n l
  | 0 => rfl
  | e + 1 => by rw [← Nat.add_assoc, (fuel_more (F + e)).1 k d n l hk (by omega), fuelB hk h e]
theorem fuelL {k d n : Nat} {t : Tr N} {l : List (Cl N)} (hk : k < 6) {F : Nat} (h : 9 * l.length < F) : ∀ e, pL (F + e) k d n t l = pL F k d n t l
  | 0 => rfl
  | e + 1 => by rw [← Nat.add_assoc, (fuel_more (F + e)).2.1 k d n t l hk (by omega), fuelL hk h e]
theorem fuelU {d n : Nat} {l : List (Cl N)} {F : Nat} (h : 9 * l.length < F) : ∀ e, pU (F + e) d n l = pU F d n l
  | 0 => rfl
  | e + 1 => by rw [← Nat.add_assoc, (fuel_more (F + e)).2.2 d n l (by omega), fuelU h e]
theorem fuelB' {k d n : Nat} {l : List (Cl N)} (hk : k ≤ 6) {F G : Nat} (h : mu k l < F) (h' : mu k l < G) : pB F k d n l = pB G k d n l := by
  rcases Nat.le_total F G with hh | hh
  · rw [← fuelB hk h (G - F), show F + (G - F) = G by omega]
  · rw [← fuelB hk h' (F - G), show G + (F - G) = F by omega]
theorem fuelL' {k d n : Nat} {t : Tr N} {l : List (Cl N)} (hk : k < 6) {F G : Nat} (h : 9 * l.length < F) (h' : 9 * l.length < G) : pL F k d n t l = pL G k d n t l := by
  rcases Nat.le_total F G with hh | hh
  · rw [← fuelL hk h (G - F), show F + (G - F) = G by omega]
  · rw [← fuelL hk h' (F - G), show G + (F - G) = F by omega]
theorem fuelU' {d n : Nat} {l : List (Cl N)} {F G : Nat} (h : 9 * l.length < F) (h' : 9 * l.length < G) : pU F d n l = pU G d n l := by
  rcases Nat.le_total F G with hh | hh
  · rw [← fuelU h (G - F), show F + (G - F) = G by omega]
  · rw [← fuelU h' (F - G), show G + (F - G) = F by omega]

/-- What may follow, so that the descent stops. -/
def stops (k : Nat) (r : List (Cl N)) : Prop := ∀ c, r.head? = some c → c.lvl ≤ k
theorem pL_stop {F k d n : Nat} {t : Tr N} {r : List (Cl N)} (h : stops k r) (hF : 0 < F) : pL F k d n t r = some (t, r) := by
  cases F with
  | zero => omega
  | succ F =>
    cases r with
    | nil => rw [pL_nil]
    | cons c r =>
      have := h c rfl
      rw [pL_cons, if_neg (by omega)]
theorem Der.len {k d : Nat} {l : List (Cl N)} {t : Tr N} (h : Der k d l t) : 1 ≤ l.length := h.ne

/-- The descent accepts what is an expression. -/
theorem complete {k d : Nat} {u : List (Cl N)} {t : Tr N} (h : Der k d u t) : ∀ (n : Nat) (r : List (Cl N)) (F : Nat), n + t.size ≤ 60 →
    (k = 6 → 9 * (u ++ r).length < F → pU F d n (u ++ r) = some (t, r)) ∧ (k < 6 → mu k (u ++ r) < F → stops (k + 1) r → pB F k d n (u ++ r) = pL F k d n t r) := by
  induction h with
  | atom d a =>
    intro n r F hn
    refine ⟨fun _ hF => ?_, fun h => by omega⟩
    cases F with
    | zero => omega
    | succ F => 
      simp only [Tr.size] at hn
      simp only [List.cons_append, List.nil_append, pU, if_pos (show n < 60 by omega)]
  | un d c k l t hc hd h ih =>
    intro n r F hn
    refine ⟨fun _ hF => ?_, fun h => by omega⟩
    cases F with
    | zero => omega
    | succ F =>
      simp only [Tr.size] at hn
      have h1 := (ih n r F (by omega)).1 rfl (by simp at hF ⊢; omega)
      cases c with
      | tilde =>
        simp only [Cl.un, Option.some.injEq] at hc
        subst hc
        simp only [List.cons_append, pU, Cl.un, if_pos hd, h1, if_pos (show n + t.size < 60 by omega)]
      | bin lv kd =>
        simp only [List.cons_append, pU, hc, if_pos hd, h1, if_pos (show n + t.size < 60 by omega)]
      | _ => simp [Cl.un] at hc
  | par d l t hd h ih =>
    intro n r F hn
    refine ⟨fun _ hF => ?_, fun h => by omega⟩
    cases F with
    | zero => omega
    | succ F =>
      have hm : mu 0 (l ++ (.rp :: r)) < F := by unfold mu; simp at hF ⊢; omega
      have h1 := (ih n (.rp :: r) F hn).2 (by omega) hm (fun c hc => by simp at hc; subst hc; simp [Cl.lvl])
      rw [pL_stop (fun c hc => by simp at hc; subst hc; simp [Cl.lvl]) (by omega)] at h1
      simp only [List.cons_append, List.append_assoc, List.nil_append, pU, if_pos hd, h1]
  | up k d l t hk h ih =>
    intro n r F hn
    refine ⟨fun h => by omega, fun _ hF hs => ?_⟩
    cases F with
    | zero => omega
    | succ F =>
      have h9 : 9 * r.length < F := by unfold mu at hF; simp at hF; have := h.len; omega
      rw [pB_eq, if_pos hk, ← fuelL' hk h9 (show 9 * r.length < F + 1 by omega)]
      by_cases h6 : k + 1 < 6
      · have h1 := (ih n r F hn).2 h6 (by unfold mu at hF ⊢; omega) (fun c hc => by have := hs c hc; omega)
        rw [pL_stop (fun c hc => hs c hc) (by omega)] at h1
        rw [h1]
      · have e : k + 1 = 6 := by omega
        cases F with
        | zero => omega
        | succ F =>
          have h1 := (ih n r F hn).1 e (by unfold mu at hF; omega)
          rw [pB_eq, if_neg (by omega), h1]
  | bin k d a b c ta tb hk hc ha hb iha ihb =>
    intro n r F hn
    refine ⟨fun h => by omega, fun _ hF hs => ?_⟩
    simp only [Tr.size] at hn
    have e : (a ++ c :: b) ++ r = a ++ (c :: (b ++ r)) := by simp
    rw [e] at hF ⊢
    have hal := ha.len
    rw [(iha n (c :: (b ++ r)) F (by omega)).2 hk hF (fun c' hc' => by simp at hc'; subst hc'; omega)]
    cases F with
    | zero => omega
    | succ F =>
      unfold mu at hF
      simp only [List.length_append, List.length_cons] at hF
      have h1 : pB F (k + 1) d (n + ta.size) (b ++ r) = some (tb, r) := by
        by_cases h6 : k + 1 < 6
        · rw [(ihb (n + ta.size) r F (by omega)).2 h6 (by unfold mu; simp; omega) (fun c hc => by have := hs c hc; omega)]
          exact pL_stop (fun c hc => hs c hc) (by omega)
        · have e : k + 1 = 6 := by omega
          cases F with
          | zero => omega
          | succ F =>
            rw [pB_eq, if_neg (by omega)]
            exact (ihb (n + ta.size) r F (by omega)).1 e (by simp; omega)
      rw [pL_cons, if_pos hc, h1]
      simp only
      rw [if_pos (by omega)]
      exact fuelL' hk (by omega) (by omega)
end Go.Proofs.YtkgdkommahgakaaDoor.Gram
