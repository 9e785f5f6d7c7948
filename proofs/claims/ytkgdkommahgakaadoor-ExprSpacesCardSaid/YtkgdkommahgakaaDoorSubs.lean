/- The plain law of linear values: coefficients, and putting a number in a symbol's place. -/
import Derived.Test.YtkgdkommahgakaaDoorVal4
namespace Go.Proofs.YtkgdkommahgakaaDoor.Abs
open Go Go.RowKit Gram
set_option linter.unusedVariables false
set_option linter.unusedSimpArgs false
set_option maxRecDepth 100000

/-- How often a symbol is there. -/
def one (b : Bool) : Int := if b = true then 1 else 0
def coef (a : Lin) (x : List UInt8) : Int := one (decide (a.sym = x)) - one (decide (a.minus = x))
def Lin.good (a : Lin) : Prop := a.sym = a.minus → a.sym = []
theorem one_eq {s x : List UInt8} (h : s = x) : one (decide (s = x)) = 1 := by simp [one, h]
theorem one_ne {s x : List UInt8} (h : ¬ s = x) : one (decide (s = x)) = 0 := by simp [one, h]
theorem one_nil {x : List UInt8} (hx : x ≠ []) : one (decide (([] : List UInt8) = x)) = 0 := one_ne (Ne.symm hx)
theorem cancel_coef {s m0 m1 x : List UInt8} (hx : x ≠ []) : one (decide ((cancel s m0 m1).1 = x)) - one (decide ((cancel s m0 m1).2.1 = x)) - one (decide ((cancel s m0 m1).2.2 = x)) = one (decide (s = x)) - one (decide (m0 = x)) - one (decide (m1 = x)) := by
  unfold cancel
  split
  · rfl
  · split
    · rename_i h; subst h; simp only [one_nil hx]; omega
    · split
      · rename_i h; subst h; simp only [one_nil hx]; omega
      · rfl
theorem cancel_apart {s m0 m1 : List UInt8} : (cancel s m0 m1).1 = [] ∨ ((cancel s m0 m1).1 = s ∧ (cancel s m0 m1).2.1 = m0 ∧ (cancel s m0 m1).2.2 = m1 ∧ m0 ≠ s ∧ m1 ≠ s) := by
  unfold cancel
  split
  · exact .inl (by assumption)
  · split
    · exact .inl rfl
    · split
      · exact .inl rfl
      · exact .inr ⟨rfl, rfl, rfl, by assumption, by assumption⟩
theorem cancel_sub {s m0 m1 : List UInt8} : ((cancel s m0 m1).2.1 = [] ∨ (cancel s m0 m1).2.1 = m0) ∧ ((cancel s m0 m1).2.2 = [] ∨ (cancel s m0 m1).2.2 = m1) := by
  unfold cancel
  split
  · exact ⟨.inr rfl, .inr rfl⟩
  · split
    · exact ⟨.inl rfl, .inr rfl⟩
    · split
      · exact ⟨.inr rfl, .inl rfl⟩
      · exact ⟨.inr rfl, .inr rfl⟩
theorem app_or {a b : List UInt8} (h : ¬ (a ≠ [] ∧ b ≠ [])) : (a = [] ∧ a ++ b = b) ∨ (b = [] ∧ a ++ b = a) := by
  by_cases ha : a = []
  · exact .inl ⟨ha, by simp [ha]⟩
  · by_cases hb : b = []
    · exact .inr ⟨hb, by simp [hb]⟩
    · exact absurd ⟨ha, hb⟩ h
theorem one_app {a b x : List UInt8} (hx : x ≠ []) (h : ¬ (a ≠ [] ∧ b ≠ [])) : one (decide (a ++ b = x)) = one (decide (a = x)) + one (decide (b = x)) := by
  rcases app_or h with ⟨h1, h2⟩ | ⟨h1, h2⟩
  · rw [h2, h1, one_nil hx]; omega
  · rw [h2, h1, one_nil hx]; omega
theorem sumL_coef {a b r : Lin} (h : sumL a b = some r) : r.num = a.num + b.num ∧ r.good ∧ ∀ x, x ≠ [] → coef r x = coef a x + coef b x := by
  unfold sumL at h
  simp only at h
  have e1 := fun x (hx : x ≠ []) => cancel_coef (s := a.sym) (m0 := a.minus) (m1 := b.minus) hx
  have g1 := cancel_apart (s := a.sym) (m0 := a.minus) (m1 := b.minus)
  generalize cancel a.sym a.minus b.minus = c at *
  have e2 := fun x (hx : x ≠ []) => cancel_coef (s := b.sym) (m0 := c.2.1) (m1 := c.2.2) hx
  have g2 := cancel_apart (s := b.sym) (m0 := c.2.1) (m1 := c.2.2)
  have g3 := cancel_sub (s := b.sym) (m0 := c.2.1) (m1 := c.2.2)
  generalize cancel b.sym c.2.1 c.2.2 = d at *
  split at h
  · simp at h
  · rename_i hn
    obtain rfl := Option.some.inj h
    have n1 : ¬ (c.1 ≠ [] ∧ d.1 ≠ []) := fun h => hn (.inl h)
    have n2 : ¬ (d.2.1 ≠ [] ∧ d.2.2 ≠ []) := fun h => hn (.inr h)
    refine ⟨rfl, ?_, fun x hx => ?_⟩
    · intro he
      simp only at he ⊢
      by_cases hz : c.1 ++ d.1 = []
      · exact hz
      exfalso
      have hz2 : d.2.1 ++ d.2.2 ≠ [] := by rw [← he]; exact hz
      -- the one subtracted
      have hm : d.2.1 ++ d.2.2 = d.2.1 ∧ d.2.1 ≠ [] ∨ d.2.1 ++ d.2.2 = d.2.2 ∧ d.2.2 ≠ [] := by
        rcases app_or n2 with ⟨_, h2⟩ | ⟨_, h2⟩
        · exact .inr ⟨h2, by rw [← h2]; exact hz2⟩
        · exact .inl ⟨h2, by rw [← h2]; exact hz2⟩
      rcases app_or n1 with ⟨_, h2⟩ | ⟨_, h2⟩
      · rw [h2] at he hz
        rcases g2 with g2 | ⟨k1, k2, k3, k4, k5⟩
        · exact hz g2
        · rcases hm with ⟨hm, _⟩ | ⟨hm, _⟩ <;> rw [hm] at he
          · exact k4 (by rw [← k1, ← k2]; exact he.symm)
          · exact k5 (by rw [← k1, ← k3]; exact he.symm)
      · rw [h2] at he hz
        rcases g1 with g1 | ⟨k1, k2, k3, k4, k5⟩
        · exact hz g1
        · rcases hm with ⟨hm, hne⟩ | ⟨hm, hne⟩ <;> rw [hm] at he
          · rcases g3.1 with g | g
            · exact hne g
            · exact k4 (by rw [← k1, ← k2, ← g]; exact he.symm)
          · rcases g3.2 with g | g
            · exact hne g
            · exact k5 (by rw [← k1, ← k3, ← g]; exact he.symm)
    · have h1 := e1 x hx
      have h2 := e2 x hx
      simp only [coef, one_app hx n1, one_app hx n2]
      omega
theorem one_01 (b : Bool) : one b = 0 ∨ one b = 1 := by cases b <;> simp [one]
theorem one_1 {s x : List UInt8} (h : one (decide (s = x)) = 1) : s = x := by
  by_cases he : s = x
  · exact he
  · rw [one_ne he] at h; omega
/-- Coefficients tell the symbols. -/
theorem coef_ext {a b : Lin} (ga : a.good) (gb : b.good) (h : ∀ x, x ≠ [] → coef a x = coef b x) : a.sym = b.sym ∧ a.minus = b.minus := by
  have pos : ∀ {a b : Lin}, a.good → (∀ x, x ≠ [] → coef a x = coef b x) → a.sym ≠ [] → b.sym = a.sym := by
    intro a b ga h hs
    have h1 := h _ hs
    unfold coef at h1
    rw [one_eq rfl, one_ne (fun he => hs (ga he.symm))] at h1
    have h2 := one_01 (decide (b.sym = a.sym))
    have h3 := one_01 (decide (b.minus = a.sym))
    exact one_1 (by omega)
  have neg : ∀ {a b : Lin}, a.good → (∀ x, x ≠ [] → coef a x = coef b x) → a.minus ≠ [] → b.minus = a.minus := by
    intro a b ga h hs
    have h1 := h _ hs
    unfold coef at h1
    rw [one_eq rfl, one_ne (fun he => hs (by rw [← he]; exact ga he))] at h1
    have h2 := one_01 (decide (b.sym = a.minus))
    have h3 := one_01 (decide (b.minus = a.minus))
    exact one_1 (by omega)
  have h' : ∀ x, x ≠ [] → coef b x = coef a x := fun x hx => (h x hx).symm
  constructor
  · by_cases ha : a.sym = []
    · by_cases hb : b.sym = []
      · rw [ha, hb]
      · exact pos gb h' hb
    · exact (pos ga h ha).symm
  · by_cases ha : a.minus = []
    · by_cases hb : b.minus = []
      · rw [ha, hb]
      · exact neg gb h' hb
    · exact (neg ga h ha).symm
theorem turn_coef (b : Lin) {s : Int} (hs : s = 1 ∨ s = -1) (x : List UInt8) : coef (turn b s) x = s * coef b x ∧ (turn b s).num = s * b.num := by
  rcases hs with rfl | rfl
  · simp [turn]
  · simp [turn, coef]; omega
theorem turn_good {b : Lin} {s : Int} (h : b.good) : (turn b s).good := by
  unfold turn
  split
  · intro he
    simp only at he ⊢
    rw [he]
    exact h he.symm
  · exact h
theorem addL_coef {a b r : Lin} {s : Int} (hs : s = 1 ∨ s = -1) (h : addL a b s = some r) : r.num = a.num + s * b.num ∧ r.good ∧ ∀ x, x ≠ [] → coef r x = coef a x + s * coef b x := by
  obtain ⟨h1, h2, h3⟩ := sumL_coef h
  refine ⟨by rw [h1, (turn_coef b hs []).2], h2, fun x hx => by rw [h3 x hx, (turn_coef b hs x).1]⟩
/-- A number in a symbol's place. -/
def putN (name : List UInt8) (n : Int) (a : Lin) : Lin := ⟨if a.sym = name then [] else a.sym, if a.minus = name then [] else a.minus, a.num + n * coef a name⟩
theorem one_put {s name x : List UInt8} (hx : x ≠ []) : one (decide ((if s = name then [] else s) = x)) = if x = name then 0 else one (decide (s = x)) := by
  by_cases h : s = name
  · rw [if_pos h, one_nil hx]
    by_cases h2 : x = name
    · rw [if_pos h2]
    · rw [if_neg h2, one_ne (fun h3 => h2 (by rw [← h3, h]))]
  · rw [if_neg h]
    by_cases h2 : x = name
    · rw [if_pos h2, one_ne (fun h3 => h (by rw [h3, h2]))]
    · rw [if_neg h2]
theorem putN_coef {name : List UInt8} {n : Int} (a : Lin) (x : List UInt8) (hx : x ≠ []) : coef (putN name n a) x = if x = name then 0 else coef a x := by
  unfold putN coef
  simp only [one_put hx]
  split
  · rfl
  · rfl
theorem putN_good {name : List UInt8} {n : Int} {a : Lin} (h : a.good) : (putN name n a).good := by
  unfold putN
  intro he
  simp only at he ⊢
  split
  · rfl
  · rename_i h1
    rw [if_neg h1] at he
    split at he
    · exact he
    · exact h he
theorem Lin.ext' {a b : Lin} (h1 : a.sym = b.sym ∧ a.minus = b.minus) (h2 : a.num = b.num) : a = b := by
  obtain ⟨_, _, _⟩ := a
  obtain ⟨_, _, _⟩ := b
  simp only at h1 h2
  rw [h1.1, h1.2, h2]
theorem putN_add {name : List UInt8} {n : Int} (hn : name ≠ []) {a b r r' : Lin} {s : Int} (hs : s = 1 ∨ s = -1) (h : addL a b s = some r) (h' : addL (putN name n a) (putN name n b) s = some r') : r' = putN name n r ∧ r.good := by
  obtain ⟨k1, k2, k3⟩ := addL_coef hs h
  obtain ⟨j1, j2, j3⟩ := addL_coef hs h'
  refine ⟨Lin.ext' (coef_ext j2 (putN_good k2) fun x hx => ?_) ?_, k2⟩
  · rw [j3 x hx, putN_coef _ _ hx, putN_coef _ _ hx, putN_coef _ _ hx, k3 x hx]
    split
    · rcases hs with rfl | rfl <;> rfl
    · rfl
  · rw [j1]
    show _ = r.num + n * coef r name
    rw [k1, k3 _ hn]
    show (a.num + n * coef a name) + s * (b.num + n * coef b name) = _
    rw [Int.mul_add, Int.mul_add, ← Int.mul_assoc, ← Int.mul_assoc, Int.mul_comm s n]
    omega
theorem putN_flat {name : List UInt8} {n : Int} (hn : name ≠ []) {a : Lin} (h : a.flat = true) : putN name n a = a := by
  unfold Lin.flat at h
  simp only [Bool.and_eq_true, decide_eq_true_eq] at h
  obtain ⟨s, m, k⟩ := a
  simp only at h
  obtain ⟨rfl, rfl⟩ := h
  simp [putN, coef, one_nil hn]
theorem zero_good : Lin.zero.good := fun _ => rfl
theorem flat_good {k : Int} : (⟨[], [], k⟩ : Lin).good := fun _ => rfl
theorem codeOf_ok {ok : Bool} {c n : Int} (h : codeOf ok c n = 0) : ok = true := (code_near h).2.2.1
theorem putN_zero {name : List UInt8} {n : Int} (hn : name ≠ []) : putN name n Lin.zero = Lin.zero := putN_flat hn rfl
theorem putN_node {name : List UInt8} {n : Int} (hn : name ≠ []) {x : Nd} {i : Nat} (hx : nodeErr x i = 0) {V : List Lin} (hV : ∀ v ∈ V, v.good)
    (h : (nodeVal x V []).2 = 0) (h' : (nodeVal x (V.map (putN name n)) [⟨name, ⟨[], [], n⟩⟩]).2 = 0) : (nodeVal x (V.map (putN name n)) [⟨name, ⟨[], [], n⟩⟩]).1 = putN name n (nodeVal x V []).1 ∧ (nodeVal x V []).1.good := by
  have gA : ∀ i : Nat, (V.getD i Lin.zero).good := fun i => by
    rw [List.getD_eq_getElem?_getD]
    cases hh : V[i]? with
    | none => exact zero_good
    | some v => exact hV v (List.mem_of_getElem? hh)
  have mA : ∀ i : Nat, (V.map (putN name n)).getD i Lin.zero = putN name n (V.getD i Lin.zero) := fun i => by
    rw [List.getD_eq_getElem?_getD, List.getD_eq_getElem?_getD, List.getElem?_map]
    cases V[i]? with
    | none => exact (putN_zero hn).symm
    | some v => rfl
  have ea : argA x (V.map (putN name n)) = putN name n (argA x V) := by
    unfold argA
    split
    · exact mA _
    · exact (putN_zero hn).symm
  have eb : argB x (V.map (putN name n)) = putN name n (argB x V) := by
    unfold argB
    split
    · exact mA _
    · exact (putN_zero hn).symm
  have hc := codeOf_ok h
  have hc' := codeOf_ok h'
  simp only [nodeVal] at *
  unfold rawVal at *
  rw [ea, eb] at *
  clear h h'
  generalize argA x V = a at *
  generalize argB x V = b at *
  by_cases k1 : x.kind = 1
  · rw [if_pos k1, if_pos k1]
    exact ⟨(putN_flat hn rfl).symm, flat_good⟩
  rw [if_neg k1] at hc hc' ⊢
  rw [if_neg k1]
  by_cases k2 : x.kind = 2
  · rw [if_pos k2, if_pos k2]
    have hxn : x.name ≠ [] := by
      have := (nodeErr_zero hx).2.2.1 k2
      rintro he
      rw [he] at this
      simp [nameOk] at this
    simp only [List.map_nil, List.map_cons, idx]
    by_cases he : name = x.name
    · simp [he, putN, coef, one, hxn, Lin.good]
    · have he' : ¬ x.name = name := fun h => he h.symm
      simp [he, he', putN, coef, one, Ne.symm hn, hn, Lin.good]
  rw [if_neg k2] at hc hc' ⊢
  rw [if_neg k2]
  by_cases k3 : x.kind = 3
  · rw [if_pos k3] at hc hc' ⊢
    rw [if_pos k3]
    obtain ⟨r, hr⟩ := Option.isSome_iff_exists.1 hc
    obtain ⟨r', hr'⟩ := Option.isSome_iff_exists.1 hc'
    rw [hr, hr', Option.getD_some, Option.getD_some]
    exact putN_add hn (a := Lin.zero) (b := a) (.inr rfl) hr (by rw [putN_zero hn]; exact hr')
  rw [if_neg k3] at hc hc' ⊢
  rw [if_neg k3]
  by_cases k5 : x.kind = 5
  · rw [if_pos k5] at hc hc' ⊢
    rw [if_pos k5]
    obtain ⟨r, hr⟩ := Option.isSome_iff_exists.1 hc
    obtain ⟨r', hr'⟩ := Option.isSome_iff_exists.1 hc'
    rw [hr, hr', Option.getD_some, Option.getD_some]
    exact putN_add hn (.inl rfl) hr hr'
  rw [if_neg k5] at hc hc' ⊢
  rw [if_neg k5]
  by_cases k6 : x.kind = 6
  · rw [if_pos k6] at hc hc' ⊢
    rw [if_pos k6]
    obtain ⟨r, hr⟩ := Option.isSome_iff_exists.1 hc
    obtain ⟨r', hr'⟩ := Option.isSome_iff_exists.1 hc'
    rw [hr, hr', Option.getD_some, Option.getD_some]
    exact putN_add hn (.inr rfl) hr hr'
  rw [if_neg k6] at hc hc' ⊢
  rw [if_neg k6]
  by_cases k4 : x.kind = 4
  · rw [if_pos k4] at hc hc' ⊢
    rw [if_pos k4]
    simp only at hc
    rw [putN_flat hn hc]
    exact ⟨(putN_flat hn rfl).symm, flat_good⟩
  rw [if_neg k4] at hc hc' ⊢
  rw [if_neg k4]
  by_cases kf : (a.flat && b.flat) = true
  · obtain ⟨f1, f2⟩ := Bool.and_eq_true_iff.1 kf
    rw [putN_flat hn f1, putN_flat hn f2, if_pos kf]
    exact ⟨(putN_flat hn rfl).symm, flat_good⟩
  · rw [if_neg kf] at hc
    simp at hc
theorem putN_eval {name : List UInt8} {n : Int} (hn : name ≠ []) : ∀ (l : List Nd) (V A B : List Lin), (∀ x ∈ l, ∃ i, nodeErr x i = 0) → (∀ v ∈ V, v.good) → evalL [] l V = .inr A → evalL [⟨name, ⟨[], [], n⟩⟩] l (V.map (putN name n)) = .inr B → B = A.map (putN name n) ∧ ∀ v ∈ A, v.good
  | [], V, A, B, _, hV, h, h' => by
    simp only [evalL, Sum.inr.injEq] at h h'
    subst h; subst h'
    exact ⟨rfl, hV⟩
  | x :: l, V, A, B, hE, hV, h, h' => by
    unfold evalL at h h'
    obtain ⟨i, hx⟩ := hE x (by simp)
    split at h
    · simp at h
    · rename_i hz
      split at h'
      · simp at h'
      · rename_i hz'
        obtain ⟨e1, e2⟩ := putN_node hn hx hV (Decidable.not_not.1 hz) (Decidable.not_not.1 hz')
        rw [e1] at h'
        refine putN_eval hn l (V ++ [(nodeVal x V []).1]) A B (fun y hy => hE y (by simp [hy])) (fun v hv => ?_) h (by rw [List.map_append, List.map_cons, List.map_nil]; exact h')
        rcases List.mem_append.1 hv with hv | hv
        · exact hV v hv
        · simp at hv; subst hv; exact e2
theorem eval_small {S : List Sy} (hS : ∀ y ∈ S, symErr y = 0) : ∀ (l : List Nd) (V A : List Lin), (∀ x ∈ l, ∃ i, nodeErr x i = 0) → (∀ v ∈ V, v.small) → evalL S l V = .inr A → ∀ v ∈ A, v.small
  | [], V, A, _, hV, h => by
    simp only [evalL, Sum.inr.injEq] at h
    subst h
    exact hV
  | x :: l, V, A, hE, hV, h => by
    unfold evalL at h
    obtain ⟨i, hx⟩ := hE x (by simp)
    split at h
    · simp at h
    · rename_i hz
      refine eval_small hS l _ A (fun y hy => hE y (by simp [hy])) (fun v hv => ?_) h
      rcases List.mem_append.1 hv with hv | hv
      · exact hV v hv
      · simp at hv; subst hv; exact nodeVal_small hx hS hV (Decidable.not_not.1 hz)
theorem evalL_len {S : List Sy} : ∀ (l : List Nd) (V A : List Lin), evalL S l V = .inr A → A.length = V.length + l.length
  | [], V, A, h => by
    simp only [evalL, Sum.inr.injEq] at h
    subst h; simp
  | x :: l, V, A, h => by
    unfold evalL at h
    split at h
    · simp at h
    · have := evalL_len l _ A h
      simp at this ⊢
      omega
/-- A value that is there: what it is. -/
theorem valueOf_ok {E : List Nd} {S : List Sy} (h : (valueOf E S).2.1 = 0) : exprFault E = (0, 0) ∧ symsFault S = (0, 0) ∧ 1 ≤ E.length ∧ E.length ≤ 60 ∧ (∀ x ∈ E, ∃ i, nodeErr x i = 0) ∧ (∀ y ∈ S, symErr y = 0) ∧
    ∃ A w, evalL S E [] = .inr A ∧ A.getLast? = some w ∧ w ∈ A ∧ valueOf E S = (w, (0, 0)) := by
  unfold valueOf at h ⊢
  by_cases hv : (valFault E S).1 ≠ 0
  · rw [if_pos hv] at h
    exact absurd h hv
  · rw [if_neg hv] at h ⊢
    have hv' : (valFault E S).1 = 0 := Decidable.not_not.1 hv
    unfold valFault at hv'
    split at hv'
    · rename_i he
      obtain ⟨k1, k2, k3, k4⟩ := exprFault_zero he
      obtain ⟨j1, j2, j3⟩ := symsFault_zero hv'
      refine ⟨k1, j1, k2, k3, fun x hx => ?_, j3, ?_⟩
      · obtain ⟨i, hi⟩ := List.getElem?_of_mem hx
        exact ⟨i, k4 i x hi⟩
      · cases hev : evalL S E [] with
        | inl f =>
          rw [hev] at h
          exfalso
          have : ∀ (l : List Nd) (V : List Lin) (f : Int × Int), evalL S l V = .inl f → f.1 ≠ 0 := by
            intro l
            induction l with
            | nil => intro V f h; simp [evalL] at h
            | cons x l ih =>
              intro V f h
              unfold evalL at h
              split at h
              · rename_i hz
                simp only [Sum.inl.injEq] at h
                subst h
                exact hz
              · exact ih _ _ h
          exact this _ _ _ hev h
        | inr A =>
          have hl := evalL_len E [] A hev
          simp at hl
          obtain ⟨w, hw⟩ : ∃ w, A.getLast? = some w := by
            cases hg : A.getLast? with
            | none => rw [List.getLast?_eq_none_iff] at hg; subst hg; simp at hl; omega
            | some w => exact ⟨w, rfl⟩
          exact ⟨A, w, rfl, hw, List.mem_of_getLast? hw, by simp only [hw, Option.getD_some]⟩
    · rename_i he
      exact absurd hv' he
/-- **A number before or after.** -/
theorem subs_law {E : List Nd} {name : List UInt8} {n : Int} (h : (valueOf E []).2.1 = 0) (h' : (valueOf E [⟨name, ⟨[], [], n⟩⟩]).2.1 = 0) :
    (valueOf E [⟨name, ⟨[], [], n⟩⟩]).1 = putN name n (valueOf E []).1 ∧ (valueOf E []).1.good ∧ (valueOf E []).1.small ∧ name ≠ [] ∧ (-1099511627776 ≤ n ∧ n ≤ 1099511627776) := by
  obtain ⟨_, _, _, _, hE, _, A, w, e1, e2, e3, e4⟩ := valueOf_ok h
  obtain ⟨_, _, _, _, _, hS, B, w', d1, d2, d3, d4⟩ := valueOf_ok h'
  have hy := hS _ (List.mem_singleton.2 rfl)
  obtain ⟨s1, s2, s3⟩ := symErr_zero hy
  have hn : name ≠ [] := by
    rintro rfl
    simp [nameOk] at s1
  obtain ⟨r1, r2⟩ := putN_eval hn E [] A B hE (by simp) e1 (by simpa using d1)
  rw [e4, d4]
  subst r1
  rw [List.getLast?_map, e2] at d2
  refine ⟨(Option.some.inj d2).symm, r2 w e3, eval_small (by simp) E [] A hE (by simp) e1 w e3, hn, s2.2.2.1, s2.2.2.2⟩
end Go.Proofs.YtkgdkommahgakaaDoor.Abs
