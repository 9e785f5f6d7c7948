/- The plain law of expressions, second part: the division at the last weakest sign. -/
import Derived.Test.YtkgdkommahgakaaDoorGram
namespace Go.Proofs.YtkgdkommahgakaaDoor.Gram
set_option linter.unusedVariables false
variable {N : Type}

def Cl.par (c : Cl N) : Int := if c.isL then 1 else if c.isR then -1 else 0
def net : List (Cl N) → Int
  | [] => 0
  | c :: l => c.par + net l
def lastEnds (l : List (Cl N)) : Bool := match l.getLast? with | some c => c.ends | none => false
theorem net_append (a b : List (Cl N)) : net (a ++ b) = net a + net b := by
  induction a with
  | nil => simp [net]
  | cons c a ih => simp only [List.cons_append, net, ih]; omega
theorem lastEnds_append {a b : List (Cl N)} (h : b ≠ []) : lastEnds (a ++ b) = lastEnds b := by
  unfold lastEnds
  rw [List.getLast?_append]
  cases hb : b.getLast? with
  | none => exact absurd (List.getLast?_eq_none_iff.1 hb) h
  | some c => rfl
theorem lastEnds_cons {c : Cl N} {b : List (Cl N)} (h : b ≠ []) : lastEnds (c :: b) = lastEnds b := lastEnds_append (a := [c]) h
theorem lastEnds_one (c : Cl N) : lastEnds [c] = c.ends := rfl
theorem lastEnds_ne {l : List (Cl N)} (h : lastEnds l = true) : l ≠ [] := by
  rintro rfl
  simp [lastEnds] at h
theorem lvl_par {c : Cl N} (h : 0 < c.lvl) : c.par = 0 ∧ c.ends = false := by
  cases c <;> simp [Cl.lvl, Cl.par, Cl.isL, Cl.isR, Cl.ends] at h ⊢
theorem un_par {c : Cl N} {k : Int} (h : c.un = some k) : c.par = 0 ∧ c.ends = false := by
  cases c <;> simp [Cl.un, Cl.par, Cl.isL, Cl.isR, Cl.ends] at h ⊢

/-- A sign between operands, outside of parentheses. -/
structure Cand (l p : List (Cl N)) (c : Cl N) (q : List (Cl N)) : Prop where
  eq : l = p ++ c :: q
  net : net p = 0
  ends : lastEnds p = true
  lvl : 0 < c.lvl

/-- The last weakest one of them. -/
def better (b : Option (Nat × Nat)) (v : Nat) : Bool := match b with | none => true | some (_, m) => decide (v ≤ m)
def scan : List (Cl N) → Nat → Int → Bool → Option (Nat × Nat) → Option (Nat × Nat)
  | [], _, _, _, b => b
  | c :: l, i, o, e, b => scan l (i + 1) (o + c.par) c.ends (if o + c.par = 0 ∧ e = true ∧ 0 < c.lvl ∧ better b c.lvl = true then some (i, c.lvl) else b)
def nd : Nat → Nat → List (Cl N) → Option (Tr N)
  | 0, _, _ => none
  | F + 1, d, l => if l.length = 0 ∨ 8 < d then none else
      match scan l 0 0 false none with
      | some (b, _) => (match nd F d (l.take b) with
        | none => none
        | some ta => match nd F d (l.drop (b + 1)) with
          | none => none
          | some tb => some (.bin (l.getD b .other).kind ta tb))
      | none => match l with
        | [] => none
        | c :: r => match c.un with
          | some k => (match nd F (d + 1) r with | none => none | some t => some (.un k t))
          | none => if c.isL = true ∧ (r.getLast?.map Cl.isR) = some true ∧ 1 < r.length then nd F (d + 1) r.dropLast else
              match c, r with
              | .atom a, [] => some (.atom a)
              | _, _ => none

def BestAt (l p : List (Cl N)) : Option (Nat × Nat) → Prop
  | none => ∀ p' c' q', Cand l p' c' q' → p.length ≤ p'.length
  | some (b, m) => ∃ p1 c1 q1, Cand l p1 c1 q1 ∧ p1.length = b ∧ b < p.length ∧ c1.lvl = m ∧ ∀ p' c' q', Cand l p' c' q' → p'.length < p.length → m ≤ c'.lvl ∧ (b < p'.length → m < c'.lvl)
theorem split_eq {α : Type} {p p' : List α} {c c' : α} {q q' : List α} (h : p ++ c :: q = p' ++ c' :: q') (hl : p.length = p'.length) : p = p' ∧ c = c' ∧ q = q' := by
  have := List.append_inj h hl
  simp only [List.cons.injEq] at this
  exact ⟨this.1, this.2.1, this.2.2⟩
theorem scan_best (l : List (Cl N)) : ∀ (q p : List (Cl N)) (b : Option (Nat × Nat)), l = p ++ q → BestAt l p b → BestAt l l (scan q p.length (net p) (lastEnds p) b)
  | [], p, b, h, hb => by
    have : l = p := by simpa using h
    rw [scan, this]
    rw [this] at hb
    exact hb
  | c :: q, p, b, h, hb => by
    rw [scan]
    have hl : (p ++ [c]).length = p.length + 1 := by simp
    have e1 : net (p ++ [c]) = net p + c.par := by rw [net_append]; simp [net]
    have e2 : lastEnds (p ++ [c]) = c.ends := by rw [lastEnds_append (by simp)]; rfl
    rw [← hl, ← e1, ← e2]
    refine scan_best l q (p ++ [c]) _ (by simp [h]) ?_
    split
    · rename_i hc
      obtain ⟨h1, h2, h3, h4⟩ := hc
      have hcand : Cand l p c q := ⟨h, by have := (lvl_par h3).1; rw [e1] at h1; omega, h2, h3⟩
      refine ⟨p, c, q, hcand, rfl, by simp, rfl, fun p' c' q' hC hlt => ?_⟩
      rw [hl] at hlt
      by_cases hpp : p'.length = p.length
      · obtain ⟨rfl, rfl, rfl⟩ := split_eq (hC.eq.symm.trans h) hpp
        exact ⟨Nat.le_refl _, fun hh => by omega⟩
      · refine ⟨?_, fun hh => by omega⟩
        cases b with
        | none =>
          have := hb p' c' q' hC
          omega
        | some bm =>
          obtain ⟨b0, m0⟩ := bm
          obtain ⟨p1, c1, q1, k1, k2, k3, k4, k5⟩ := hb
          have := (k5 p' c' q' hC (by omega)).1
          simp only [better, decide_eq_true_eq] at h4
          omega
    · rename_i hc
      have key : ∀ p' c' q', Cand l p' c' q' → p'.length = p.length → c' = c ∧ (net (p ++ [c]) = 0 ∧ lastEnds p = true ∧ 0 < c.lvl) := fun p' c' q' hC hpp => by
        obtain ⟨rfl, rfl, rfl⟩ := split_eq (hC.eq.symm.trans h) hpp
        refine ⟨rfl, ?_, hC.ends, hC.lvl⟩
        rw [e1, hC.net, (lvl_par hC.lvl).1]
        rfl
      cases b with
      | none =>
        intro p' c' q' hC
        have := hb p' c' q' hC
        rw [hl]
        by_cases hpp : p'.length = p.length
        · obtain ⟨rfl, k1, k2, k3⟩ := key p' c' q' hC hpp
          exact absurd ⟨k1, k2, k3, rfl⟩ hc
        · omega
      | some bm =>
        obtain ⟨b0, m0⟩ := bm
        obtain ⟨p1, c1, q1, k1, k2, k3, k4, k5⟩ := hb
        refine ⟨p1, c1, q1, k1, k2, by rw [hl]; omega, k4, fun p' c' q' hC hlt => ?_⟩
        rw [hl] at hlt
        by_cases hpp : p'.length = p.length
        · obtain ⟨rfl, j1, j2, j3⟩ := key p' c' q' hC hpp
          have : ¬ better (some (b0, m0)) c'.lvl = true := fun hh => hc ⟨j1, j2, j3, hh⟩
          simp only [better, decide_eq_true_eq] at this
          omega
        · exact k5 p' c' q' hC (by omega)
theorem scan_none {l : List (Cl N)} (h : scan l 0 0 false none = none) : ∀ p c q, ¬ Cand l p c q := fun p c q hC => by
  have := scan_best l l [] none rfl (fun _ _ _ _ => Nat.zero_le _)
  simp only [List.length_nil, net, show lastEnds ([] : List (Cl N)) = false from rfl, h] at this
  have h1 := this p c q hC
  have h2 := congrArg List.length hC.eq
  simp at h2
  omega
theorem scan_some {l : List (Cl N)} {b m : Nat} (h : scan l 0 0 false none = some (b, m)) : ∃ p c q, Cand l p c q ∧ p.length = b ∧ c.lvl = m ∧ ∀ p' c' q', Cand l p' c' q' → m ≤ c'.lvl ∧ (b < p'.length → m < c'.lvl) := by
  have := scan_best l l [] none rfl (fun _ _ _ _ => Nat.zero_le _)
  simp only [List.length_nil, net, show lastEnds ([] : List (Cl N)) = false from rfl, h] at this
  obtain ⟨p, c, q, k1, k2, k3, k4, k5⟩ := this
  refine ⟨p, c, q, k1, k2, k4, fun p' c' q' hC => k5 p' c' q' hC ?_⟩
  have h2 := congrArg List.length hC.eq
  simp at h2
  omega

/-! ### signs in what is an expression -/
theorem Der.down {k d : Nat} {l : List (Cl N)} {t : Tr N} (h : Der k d l t) : ∀ j, j ≤ k → Der j d l t := by
  have : ∀ e j, j + e = k → Der j d l t := by
    intro e
    induction e with
    | zero => intro j hj; have : j = k := by omega
              subst this; exact h
    | succ e ih => intro j hj; have := h.le; exact .up j d l t (by omega) (ih (j + 1) (by omega))
  exact fun j hj => this (k - j) j (by omega)
theorem Der.top {k d : Nat} {l : List (Cl N)} {t : Tr N} (h : Der k d l t) : Der 6 d l t ∨ ∃ j a b c ta tb, k ≤ j ∧ j < 6 ∧ c.lvl = j + 1 ∧ Der j d a ta ∧ Der (j + 1) d b tb ∧ l = a ++ c :: b ∧ t = .bin c.kind ta tb := by
  induction h with
  | atom d a => exact .inl (.atom d a)
  | un d c k l t hc hd h _ => exact .inl (.un d c k l t hc hd h)
  | par d l t hd h _ => exact .inl (.par d l t hd h)
  | up k d l t hk h ih =>
    rcases ih with h1 | ⟨j, a, b, c, ta, tb, h1, h2⟩
    · exact .inl h1
    · exact .inr ⟨j, a, b, c, ta, tb, by omega, h2⟩
  | bin k d a b c ta tb hk hc ha hb _ _ => exact .inr ⟨k, a, b, c, ta, tb, Nat.le_refl _, hk, hc, ha, hb, rfl, rfl⟩
theorem Der.net {k d : Nat} {l : List (Cl N)} {t : Tr N} (h : Der k d l t) : Gram.net l = 0 ∧ lastEnds l = true ∧ ∀ p q, l = p ++ q → 0 ≤ Gram.net p := by
  induction h with
  | atom d a =>
    refine ⟨rfl, rfl, fun p q h => ?_⟩
    cases p with
    | nil => simp [Gram.net]
    | cons c p =>
      simp only [List.cons_append, List.cons.injEq] at h
      obtain ⟨rfl, h⟩ := h
      have := List.append_eq_nil_iff.1 h.symm
      rw [this.1]
      simp [Gram.net, Cl.par, Cl.isL, Cl.isR]
  | un d c k l t hc hd h ih =>
    obtain ⟨i1, i2, i3⟩ := ih
    have hp := un_par hc
    refine ⟨by rw [Gram.net, hp.1, i1]; rfl, by rw [lastEnds_cons (lastEnds_ne i2)]; exact i2, fun p q h => ?_⟩
    cases p with
    | nil => simp [Gram.net]
    | cons c' p =>
      simp only [List.cons_append, List.cons.injEq] at h
      obtain ⟨rfl, h⟩ := h
      have := i3 p q h
      rw [Gram.net, hp.1]
      omega
  | par d l t hd h ih =>
    obtain ⟨i1, i2, i3⟩ := ih
    refine ⟨?_, ?_, fun p q h => ?_⟩
    · rw [Gram.net, net_append, i1]
      simp [Gram.net, Cl.par, Cl.isL, Cl.isR]
    · rw [lastEnds_cons (by simp), lastEnds_append (by simp)]
      rfl
    · cases p with
      | nil => simp [Gram.net]
      | cons c' p =>
        simp only [List.cons_append, List.cons.injEq] at h
        obtain ⟨rfl, h⟩ := h
        rw [Gram.net]
        have hlp : (Cl.lp : Cl N).par = 1 := rfl
        rw [hlp]
        rcases List.append_eq_append_iff.1 h with ⟨w, h1, h2⟩ | ⟨w, h1, h2⟩
        · rw [h1, net_append, i1]
          cases w with
          | nil => simp [Gram.net]
          | cons x w =>
            simp only [List.cons_append, List.cons.injEq] at h2
            obtain ⟨rfl, h2⟩ := h2
            have := List.append_eq_nil_iff.1 h2.symm
            rw [this.1]
            simp [Gram.net, Cl.par, Cl.isL, Cl.isR]
        · have := i3 p w h1
          omega
  | up k d l t hk h ih => exact ih
  | bin k d a b c ta tb hk hc ha hb iha ihb =>
    obtain ⟨a1, a2, a3⟩ := iha
    obtain ⟨b1, b2, b3⟩ := ihb
    have hp := lvl_par (c := c) (by omega)
    refine ⟨by rw [net_append, Gram.net, a1, b1, hp.1]; rfl, ?_, fun p q h => ?_⟩
    · rw [lastEnds_append (by simp), lastEnds_cons (lastEnds_ne b2)]
      exact b2
    · rcases List.append_eq_append_iff.1 h with ⟨w, h1, h2⟩ | ⟨w, h1, h2⟩
      · rw [h1, net_append, a1]
        cases w with
        | nil => simp [Gram.net]
        | cons x w =>
          simp only [List.cons_append, List.cons.injEq] at h2
          obtain ⟨rfl, h2⟩ := h2
          have := b3 w q h2
          rw [Gram.net, hp.1]
          omega
      · exact a3 p w h1
theorem Der.cands {k d : Nat} {l : List (Cl N)} {t : Tr N} (h : Der k d l t) : ∀ p c q, Cand l p c q → k < 6 ∧ k < c.lvl := by
  induction h with
  | atom d a =>
    intro p c q hC
    have h1 := congrArg List.length hC.eq
    simp at h1
    exact absurd (List.eq_nil_of_length_eq_zero (by omega)) (lastEnds_ne hC.ends)
  | un d c k l t hc hd h ih =>
    intro p x q hC
    have hp := un_par hc
    have hne := lastEnds_ne hC.ends
    cases p with
    | nil => simp at hne
    | cons y p =>
      have he := hC.eq
      simp only [List.cons_append, List.cons.injEq] at he
      obtain ⟨rfl, he⟩ := he
      have hn := hC.net
      rw [Gram.net, hp.1] at hn
      have hE := hC.ends
      cases p with
      | nil => rw [lastEnds_one, hp.2] at hE; simp at hE
      | cons z p =>
        rw [lastEnds_cons (by simp)] at hE
        exact ih (z :: p) x q ⟨he, by omega, hE, hC.lvl⟩
  | par d l t hd h ih =>
    intro p x q hC
    have hne := lastEnds_ne hC.ends
    cases p with
    | nil => simp at hne
    | cons y p =>
      have he := hC.eq
      simp only [List.cons_append, List.cons.injEq] at he
      obtain ⟨rfl, he⟩ := he
      have hn := hC.net
      rw [Gram.net] at hn
      have hlp : (Cl.lp : Cl N).par = 1 := rfl
      rw [hlp] at hn
      exfalso
      have hpre := h.net.2.2
      rcases List.append_eq_append_iff.1 he with ⟨w, h1, h2⟩ | ⟨w, h1, h2⟩
      · cases w with
        | nil =>
          have := hpre p [] (by simpa using h1.symm)
          omega
        | cons z w =>
          simp only [List.cons_append, List.cons.injEq] at h2
          have := List.append_eq_nil_iff.1 h2.2.symm
          simp at this
      · have := hpre p w h1
        omega
  | up k d l t hk h ih =>
    intro p x q hC
    have := ih p x q hC
    omega
  | bin k d a b c ta tb hk hc ha hb iha ihb =>
    intro p x q hC
    refine ⟨hk, ?_⟩
    have hp := lvl_par (c := c) (by omega)
    rcases List.append_eq_append_iff.1 hC.eq with ⟨w, h1, h2⟩ | ⟨w, h1, h2⟩
    · cases w with
      | nil =>
        simp only [List.nil_append, List.cons.injEq] at h2
        rw [← h2.1]
        omega
      | cons z w =>
        simp only [List.cons_append, List.cons.injEq] at h2
        obtain ⟨rfl, h2⟩ := h2
        have hn := hC.net
        have hE := hC.ends
        rw [h1] at hn hE
        rw [net_append, Gram.net, ha.net.1, hp.1] at hn
        rw [lastEnds_append (by simp)] at hE
        cases w with
        | nil => rw [lastEnds_one, hp.2] at hE; simp at hE
        | cons y w =>
          rw [lastEnds_cons (by simp)] at hE
          have := (ihb (y :: w) x q ⟨h2, by omega, hE, hC.lvl⟩).2
          omega
    · cases w with
      | nil =>
        simp only [List.nil_append, List.cons.injEq] at h2
        rw [h2.1]
        omega
      | cons z w =>
        simp only [List.cons_append, List.cons.injEq] at h2
        obtain ⟨rfl, h2⟩ := h2
        exact (iha p x w ⟨h1, hC.net, hC.ends, hC.lvl⟩).2
/-- An expression without signs weaker than a level is one of that level. -/
theorem Der.lift {d : Nat} {l : List (Cl N)} {t : Tr N} (h : Der 0 d l t) {k : Nat} (hk : k ≤ 6) (hc : ∀ p c q, Cand l p c q → k < c.lvl) : Der k d l t := by
  rcases h.top with h1 | ⟨j, a, b, c, ta, tb, h1, h2, h3, h4, h5, rfl, rfl⟩
  · exact h1.down k hk
  · have := hc a c b ⟨rfl, h4.net.1, h4.net.2.1, by omega⟩
    exact (Der.bin j d a b c ta tb h2 h3 h4 h5).down k (by omega)

/-- What is divided is an expression. -/
theorem nd_sound : ∀ (F d : Nat) (l : List (Cl N)) (t : Tr N), (∀ c ∈ l, c.ok) → nd F d l = some t → Der 0 d l t ∧ d ≤ 8
  | 0, d, l, t, _, h => by simp [nd] at h
  | F + 1, d, l, t, hok, h => by
    unfold nd at h
    split at h
    · simp at h
    · rename_i hd
      refine ⟨?_, by omega⟩
      split at h
      · rename_i b m hs
        obtain ⟨p, c, q, hC, rfl, rfl, hmin⟩ := scan_some hs
        split at h
        · simp at h
        · rename_i ta hta
          split at h
          · simp at h
          · rename_i tb htb
            simp only [Option.some.injEq] at h
            subst h
            have e1 : l.take p.length = p := by rw [hC.eq, List.take_left]
            have e2 : l.drop (p.length + 1) = q := by
              rw [hC.eq, ← List.drop_drop, List.drop_left]
              rfl
            have e3 : l.getD p.length .other = c := by
              rw [List.getD_eq_getElem?_getD, hC.eq, List.getElem?_append_right (Nat.le_refl _)]
              simp
            rw [e1] at hta
            rw [e2] at htb
            rw [e3]
            have ha := (nd_sound F d p ta (fun c hc => hok c (by rw [hC.eq]; simp [hc])) hta).1
            have hb := (nd_sound F d q tb (fun c hc => hok c (by rw [hC.eq]; simp [hc])) htb).1
            have hco := hok c (by rw [hC.eq]; simp)
            have hcl := hC.lvl
            obtain ⟨k, hk, hk6⟩ : ∃ k, c.lvl = k + 1 ∧ k < 6 := by
              cases c with
              | bin lv kd =>
                simp only [Cl.ok] at hco
                exact ⟨lv - 1, by simp only [Cl.lvl]; omega, by omega⟩
              | _ => simp [Cl.lvl] at hcl
            have ha' : Der k d p ta := ha.lift (by omega) fun p' c' q' hC' => by
              have := (hmin p' c' (q' ++ c :: q) ⟨by rw [hC.eq, hC'.eq]; simp, hC'.net, hC'.ends, hC'.lvl⟩).1
              omega
            have hb' : Der (k + 1) d q tb := hb.lift (by omega) fun p' c' q' hC' => by
              have hne := lastEnds_ne hC'.ends
              have := (hmin (p ++ c :: p') c' q' ⟨by rw [hC.eq, hC'.eq]; simp, by rw [net_append, Gram.net, hC.net, hC'.net, (lvl_par hC.lvl).1]; rfl, by rw [lastEnds_append (by simp), lastEnds_cons hne]; exact hC'.ends, hC'.lvl⟩).2 (by simp)
              omega
            have := Der.bin k d p q c ta tb hk6 hk ha' hb'
            rw [← hC.eq] at this
            exact this.down 0 (by omega)
      · rename_i hs
        have hno := scan_none hs
        split at h
        · simp at h
        · rename_i c r
          split at h
          · rename_i k hun
            split at h
            · simp at h
            · rename_i t1 ht1
              simp only [Option.some.injEq] at h
              subst h
              obtain ⟨h1, h2⟩ := nd_sound F (d + 1) r t1 (fun c hc => hok c (by simp [hc])) ht1
              have h6 : Der 6 (d + 1) r t1 := h1.lift (by omega) fun p x q hC => by
                refine absurd ?_ (hno (c :: p) x q)
                exact ⟨by rw [hC.eq]; rfl, by rw [Gram.net, (un_par hun).1, hC.net]; rfl, by rw [lastEnds_cons (lastEnds_ne hC.ends)]; exact hC.ends, hC.lvl⟩
              exact (Der.un d c k r t1 hun (by omega) h6).down 0 (by omega)
          · split at h
            · rename_i hpar
              obtain ⟨g1, g2, g3⟩ := hpar
              obtain ⟨h1, h2⟩ := nd_sound F (d + 1) r.dropLast t (fun c hc => hok c (List.mem_cons_of_mem _ (List.dropLast_subset _ hc))) h
              have hr : r = r.dropLast ++ [.rp] := by
                have hne : r ≠ [] := by intro e; subst e; simp at g3
                rw [List.getLast?_eq_some_getLast hne] at g2
                simp only [Option.map_some, Option.some.injEq] at g2
                have := (List.dropLast_concat_getLast hne).symm
                cases hl : r.getLast hne with
                | rp => rw [hl] at this; exact this
                | _ => rw [hl] at g2; simp [Cl.isR] at g2
              have hc : c = .lp := by
                cases c with
                | lp => rfl
                | _ => simp [Cl.isL] at g1
              rw [hr, hc]
              exact (Der.par d r.dropLast t (by omega) h1).down 0 (by omega)
            · split at h
              · simp only [Option.some.injEq] at h
                subst h
                exact (Der.atom d _).down 0 (by omega)
              · simp at h

/-- What is an expression is divided. -/
theorem nd_complete : ∀ (F : Nat) {d : Nat} {l : List (Cl N)} {t : Tr N}, Der 0 d l t → d ≤ 8 → l.length < F → nd F d l = some t
  | 0, _, _, _, _, _, h => by omega
  | F + 1, d, l, t, hD, hd, hF => by
    have hne := hD.ne
    unfold nd
    rw [if_neg (by omega)]
    have no_scan : Der 6 d l t → scan l 0 0 false none = none := fun h6 => by
      cases hs : scan l 0 0 false none with
      | none => rfl
      | some bm =>
        obtain ⟨b, m⟩ := bm
        obtain ⟨p, c, q, hC, _⟩ := scan_some hs
        have := h6.cands p c q hC
        omega
    rcases hD.top with h6 | ⟨j, a, b, c, ta, tb, h1, h2, h3, h4, h5, rfl, rfl⟩
    · rw [no_scan h6]
      cases h6 with
      | atom _ a => rfl
      | un _ c k l' t' hc hd' h' =>
        simp only [hc]
        rw [nd_complete F (h'.down 0 (by omega)) (by omega) (by simp at hF; omega)]
      | par _ l' t' hd' h' =>
        have hl := h'.ne
        simp only [Cl.un, Cl.isL, List.getLast?_append, List.getLast?_singleton, Option.some_or, Option.map_some, Cl.isR, List.length_append, List.length_cons, List.length_nil, List.dropLast_concat, true_and]
        rw [if_pos (by omega)]
        exact nd_complete F h' (by omega) (by simp at hF; omega)
      | up _ _ _ _ hk _ => omega
      | bin _ _ _ _ _ _ _ hk _ _ _ => omega
    · have hC : Cand (a ++ c :: b) a c b := ⟨rfl, h4.net.1, h4.net.2.1, by omega⟩
      cases hs : scan (a ++ c :: b) 0 0 false none with
      | none => exact absurd hC (scan_none hs a c b)
      | some bm =>
        obtain ⟨bb, m⟩ := bm
        obtain ⟨p, x, q, hC2, rfl, rfl, hmin⟩ := scan_some hs
        have m1 := (hmin a c b hC)
        have hpa : p.length = a.length := by
          rcases Nat.lt_trichotomy p.length a.length with hh | hh | hh
          · have h7 := (Der.bin j d a b c ta tb h2 h3 h4 h5).cands p x q hC2
            have := m1.2 hh
            omega
          · exact hh
          · exfalso
            rcases List.append_eq_append_iff.1 hC2.eq with ⟨w, e1, e2⟩ | ⟨w, e1, e2⟩
            · cases w with
              | nil => rw [e1] at hh; simp at hh
              | cons z w =>
                simp only [List.cons_append, List.cons.injEq] at e2
                obtain ⟨rfl, e2⟩ := e2
                have hp := lvl_par (c := c) (by omega)
                have hn := hC2.net
                have hE := hC2.ends
                rw [e1] at hn hE
                rw [net_append, Gram.net, h4.net.1, hp.1] at hn
                rw [lastEnds_append (by simp)] at hE
                cases w with
                | nil => rw [lastEnds_one, hp.2] at hE; simp at hE
                | cons y w =>
                  rw [lastEnds_cons (by simp)] at hE
                  have := h5.cands (y :: w) x q ⟨e2, by omega, hE, hC2.lvl⟩
                  omega
            · have := congrArg List.length e1
              simp at this
              omega
        obtain ⟨rfl, rfl, rfl⟩ := split_eq (hC2.eq.symm) hpa
        simp only [List.take_left, List.length_append, List.length_cons] at hF ⊢
        rw [nd_complete F (h4.down 0 (by omega)) hd (by omega)]
        have e2 : (p ++ x :: q).drop (p.length + 1) = q := by rw [← List.drop_drop, List.drop_left]; rfl
        have e3 : (p ++ x :: q).getD p.length .other = x := by
          rw [List.getD_eq_getElem?_getD, List.getElem?_append_right (Nat.le_refl _)]
          simp
        rw [e2, e3]
        simp only
        rw [nd_complete F (h5.down 0 (by omega)) hd (by omega)]

/-- **Both accept the same lists.** -/
theorem parse_nd {l : List (Cl N)} (hok : ∀ c ∈ l, c.ok) {F G : Nat} (hF : mu 0 l < F) (hG : l.length < G) (t : Tr N) : pB F 0 0 0 l = some (t, []) ↔ nd G 0 l = some t ∧ t.size ≤ 60 := by
  constructor
  · intro h
    obtain ⟨u, hu, hD, hs⟩ := (sound F).1 0 0 0 l t [] (by omega) h
    have : l = u := by simpa using hu
    subst this
    exact ⟨nd_complete G hD (by omega) hG, by omega⟩
  · rintro ⟨h, hs⟩
    have hD := (nd_sound G 0 l t hok h).1
    have h1 := (complete hD 0 [] F (by omega)).2 (by omega) (by simpa using hF) (fun c hc => by simp at hc)
    rw [List.append_nil] at h1
    rw [h1]
    exact pL_stop (fun c hc => by simp at hc) (by omega)
/-- The depth only bounds. -/
theorem nd_depth {G d e : Nat} {l : List (Cl N)} {t t' : Tr N} (hok : ∀ c ∈ l, c.ok) (h : nd G d l = some t) (h' : nd G e l = some t') : t = t' := by
  have shallow : ∀ {k d : Nat} {l : List (Cl N)} {t : Tr N}, Der k d l t → ∀ e, e ≤ d → Der k e l t := by
    intro k d l t h
    induction h with
    | atom d a => exact fun e _ => .atom e a
    | un d c k l t hc hd h ih => exact fun e he => .un e c k l t hc (by omega) (ih (e + 1) (by omega))
    | par d l t hd h ih => exact fun e he => .par e l t (by omega) (ih (e + 1) (by omega))
    | up k d l t hk h ih => exact fun e he => .up k e l t hk (ih e he)
    | bin k d a b c ta tb hk hc ha hb iha ihb => exact fun e he => .bin k e a b c ta tb hk hc (iha e he) (ihb e he)
  have h1 := shallow (nd_sound G d l t hok h).1 0 (Nat.zero_le _)
  have h2 := shallow (nd_sound G e l t' hok h').1 0 (Nat.zero_le _)
  have a1 := nd_complete (l.length + 1) h1 (by omega) (by omega)
  have a2 := nd_complete (l.length + 1) h2 (by omega) (by omega)
  rw [a1] at a2
  exact Option.some.inj a2
end Go.Proofs.YtkgdkommahgakaaDoor.Gram
