/- Part GroupI of the proof: an abstract machine for the program's calls, and what functions do on it. It has no conditions. -/
import Derived.Test.YtkgdkommahgakaaDoorGroupF
import Derived.Test.YtkgdkommahgakaaDoorGroupG
import Derived.Test.YtkgdkommahgakaaDoorGroupH
/- The plain law of linear values: coefficients, and putting a number in a symbol's place. -/
namespace Go.Proofs.YtkgdkommahgakaaDoor.Abs
open Go Go.RowKit Gram
set_option linter.unusedVariables false
set_option linter.unusedSimpArgs false
set_option maxRecDepth 100000

/-- How often a symbol is there. -/
def one (b : Bool) : Int := if b = true then 1 else 0
def coef (a : Lin) (x : List UInt8) : Int := one (decide (a.sym = x)) - one (decide (a.minus = x))
def Lin.good (a : Lin) : Prop := a.sym = a.minus → a.sym = []
theorem one_eq {s x : List UInt8} (h : s = x) : one (decide (s = x)) = 1 := by simp [one, h]
theorem one_ne {s x : List UInt8} (h : ¬ s = x) : one (decide (s = x)) = 0 := by simp [one, h]
theorem one_nil {x : List UInt8} (hx : x ≠ []) : one (decide (([] : List UInt8) = x)) = 0 := one_ne (Ne.symm hx)
theorem cancel_coef {s m0 m1 x : List UInt8} (hx : x ≠ []) : one (decide ((cancel s m0 m1).1 = x)) - one (decide ((cancel s m0 m1).2.1 = x)) - one (decide ((cancel s m0 m1).2.2 = x)) = one (decide (s = x)) - one (decide (m0 = x)) - one (decide (m1 = x)) := by
  unfold cancel
  split
  · rfl
  · split
    · rename_i h; subst h; simp only [one_nil hx]; omega
    · split
      · rename_i h; subst h; simp only [one_nil hx]; omega
      · rfl
theorem cancel_apart {s m0 m1 : List UInt8} : (cancel s m0 m1).1 = [] ∨ ((cancel s m0 m1).1 = s ∧ (cancel s m0 m1).2.1 = m0 ∧ (cancel s m0 m1).2.2 = m1 ∧ m0 ≠ s ∧ m1 ≠ s) := by
  unfold cancel
  split
  · exact .inl (by assumption)
  · split
    · exact .inl rfl
    · split
      · exact .inl rfl
      · exact .inr ⟨rfl, rfl, rfl, by assumption, by assumption⟩
theorem cancel_sub {s m0 m1 : List UInt8} : ((cancel s m0 m1).2.1 = [] ∨ (cancel s m0 m1).2.1 = m0) ∧ ((cancel s m0 m1).2.2 = [] ∨ (cancel s m0 m1).2.2 = m1) := by
  unfold cancel
  split
  · exact ⟨.inr rfl, .inr rfl⟩
  · split
    · exact ⟨.inl rfl, .inr rfl⟩
    · split
      · exact ⟨.inr rfl, .inl rfl⟩
      · exact ⟨.inr rfl, .inr rfl⟩
theorem app_or {a b : List UInt8} (h : ¬ (a ≠ [] ∧ b ≠ [])) : (a = [] ∧ a ++ b = b) ∨ (b = [] ∧ a ++ b = a) := by
  by_cases ha : a = []
  · exact .inl ⟨ha, by simp [ha]⟩
  · by_cases hb : b = []
    · exact .inr ⟨hb, by simp [hb]⟩
    · exact absurd ⟨ha, hb⟩ h
theorem one_app {a b x : List UInt8} (hx : x ≠ []) (h : ¬ (a ≠ [] ∧ b ≠ [])) : one (decide (a ++ b = x)) = one (decide (a = x)) + one (decide (b = x)) := by
  rcases app_or h with ⟨h1, h2⟩ | ⟨h1, h2⟩
  · rw [h2, h1, one_nil hx]; omega
  · rw [h2, h1, one_nil hx]; omega
theorem sumL_coef {a b r : Lin} (h : sumL a b = some r) : r.num = a.num + b.num ∧ r.good ∧ ∀ x, x ≠ [] → coef r x = coef a x + coef b x := by
  unfold sumL at h
  simp only at h
  have e1 := fun x (hx : x ≠ []) => cancel_coef (s := a.sym) (m0 := a.minus) (m1 := b.minus) hx
  have g1 := cancel_apart (s := a.sym) (m0 := a.minus) (m1 := b.minus)
  generalize cancel a.sym a.minus b.minus = c at *
  have e2 := fun x (hx : x ≠ []) => cancel_coef (s := b.sym) (m0 := c.2.1) (m1 := c.2.2) hx
  have g2 := cancel_apart (s := b.sym) (m0 := c.2.1) (m1 := c.2.2)
  have g3 := cancel_sub (s := b.sym) (m0 := c.2.1) (m1 := c.2.2)
  generalize cancel b.sym c.2.1 c.2.2 = d at *
  split at h
  · simp at h
  · rename_i hn
    obtain rfl := Option.some.inj h
    have n1 : ¬ (c.1 ≠ [] ∧ d.1 ≠ []) := fun h => hn (.inl h)
    have n2 : ¬ (d.2.1 ≠ [] ∧ d.2.2 ≠ []) := fun h => hn (.inr h)
    refine ⟨rfl, ?_, fun x hx => ?_⟩
    · intro he
      simp only at he ⊢
      by_cases hz : c.1 ++ d.1 = []
      · exact hz
      exfalso
      have hz2 : d.2.1 ++ d.2.2 ≠ [] := by rw [← he]; exact hz
      -- the one subtracted
      have hm : d.2.1 ++ d.2.2 = d.2.1 ∧ d.2.1 ≠ [] ∨ d.2.1 ++ d.2.2 = d.2.2 ∧ d.2.2 ≠ [] := by
        rcases app_or n2 with ⟨_, h2⟩ | ⟨_, h2⟩
        · exact .inr ⟨h2, by rw [← h2]; exact hz2⟩
        · exact .inl ⟨h2, by rw [← h2]; exact hz2⟩
      rcases app_or n1 with ⟨_, h2⟩ | ⟨_, h2⟩
      · rw [h2] at he hz
        rcases g2 with g2 | ⟨k1, k2, k3, k4, k5⟩
        · exact hz g2
        · rcases hm with ⟨hm, _⟩ | ⟨hm, _⟩ <;> rw [hm] at he
          · exact k4 (by rw [← k1, ← k2]; exact he.symm)
          · exact k5 (by rw [← k1, ← k3]; exact he.symm)
      · rw [h2] at he hz
        rcases g1 with g1 | ⟨k1, k2, k3, k4, k5⟩
        · exact hz g1
        · rcases hm with ⟨hm, hne⟩ | ⟨hm, hne⟩ <;> rw [hm] at he
          · rcases g3.1 with g | g
            · exact hne g
            · exact k4 (by rw [← k1, ← k2, ← g]; exact he.symm)
          · rcases g3.2 with g | g
            · exact hne g
            · exact k5 (by rw [← k1, ← k3, ← g]; exact he.symm)
    · have h1 := e1 x hx
      have h2 := e2 x hx
      simp only [coef, one_app hx n1, one_app hx n2]
      omega
theorem one_01 (b : Bool) : one b = 0 ∨ one b = 1 := by cases b <;> simp [one]
theorem one_1 {s x : List UInt8} (h : one (decide (s = x)) = 1) : s = x := by
  by_cases he : s = x
  · exact he
  · rw [one_ne he] at h; omega
/-- Coefficients tell the symbols. -/
theorem coef_ext {a b : Lin} (ga : a.good) (gb : b.good) (h : ∀ x, x ≠ [] → coef a x = coef b x) : a.sym = b.sym ∧ a.minus = b.minus := by
  have pos : ∀ {a b : Lin}, a.good → (∀ x, x ≠ [] → coef a x = coef b x) → a.sym ≠ [] → b.sym = a.sym := by
    intro a b ga h hs
    have h1 := h _ hs
    unfold coef at h1
    rw [one_eq rfl, one_ne (fun he => hs (ga he.symm))] at h1
    have h2 := one_01 (decide (b.sym = a.sym))
    have h3 := one_01 (decide (b.minus = a.sym))
    exact one_1 (by omega)
  have neg : ∀ {a b : Lin}, a.good → (∀ x, x ≠ [] → coef a x = coef b x) → a.minus ≠ [] → b.minus = a.minus := by
    intro a b ga h hs
    have h1 := h _ hs
    unfold coef at h1
    rw [one_eq rfl, one_ne (fun he => hs (by rw [← he]; exact ga he))] at h1
    have h2 := one_01 (decide (b.sym = a.minus))
    have h3 := one_01 (decide (b.minus = a.minus))
    exact one_1 (by omega)
  have h' : ∀ x, x ≠ [] → coef b x = coef a x := fun x hx => (h x hx).symm
  constructor
  · by_cases ha : a.sym = []
    · by_cases hb : b.sym = []
      · rw [ha, hb]
      · exact pos gb h' hb
    · exact (pos ga h ha).symm
  · by_cases ha : a.minus = []
    · by_cases hb : b.minus = []
      · rw [ha, hb]
      · exact neg gb h' hb
    · exact (neg ga h ha).symm
theorem turn_coef (b : Lin) {s : Int} (hs : s = 1 ∨ s = -1) (x : List UInt8) : coef (turn b s) x = s * coef b x ∧ (turn b s).num = s * b.num := by
  rcases hs with rfl | rfl
  · simp [turn]
  · simp [turn, coef]; omega
theorem turn_good {b : Lin} {s : Int} (h : b.good) : (turn b s).good := by
  unfold turn
  split
  · intro he
    simp only at he ⊢
    rw [he]
    exact h he.symm
  · exact h
theorem addL_coef {a b r : Lin} {s : Int} (hs : s = 1 ∨ s = -1) (h : addL a b s = some r) : r.num = a.num + s * b.num ∧ r.good ∧ ∀ x, x ≠ [] → coef r x = coef a x + s * coef b x := by
  obtain ⟨h1, h2, h3⟩ := sumL_coef h
  refine ⟨by rw [h1, (turn_coef b hs []).2], h2, fun x hx => by rw [h3 x hx, (turn_coef b hs x).1]⟩
/-- A number in a symbol's place. -/
def putN (name : List UInt8) (n : Int) (a : Lin) : Lin := ⟨if a.sym = name then [] else a.sym, if a.minus = name then [] else a.minus, a.num + n * coef a name⟩
theorem one_put {s name x : List UInt8} (hx : x ≠ []) : one (decide ((if s = name then [] else s) = x)) = if x = name then 0 else one (decide (s = x)) := by
  by_cases h : s = name
  · rw [if_pos h, one_nil hx]
    by_cases h2 : x = name
    · rw [if_pos h2]
    · rw [if_neg h2, one_ne (fun h3 => h2 (by rw [← h3, h]))]
  · rw [if_neg h]
    by_cases h2 : x = name
    · rw [if_pos h2, one_ne (fun h3 => h (by rw [h3, h2]))]
    · rw [if_neg h2]
theorem putN_coef {name : List UInt8} {n : Int} (a : Lin) (x : List UInt8) (hx : x ≠ []) : coef (putN name n a) x = if x = name then 0 else coef a x := by
  unfold putN coef
  simp only [one_put hx]
  split
  · rfl
  · rfl
theorem putN_good {name : List UInt8} {n : Int} {a : Lin} (h : a.good) : (putN name n a).good := by
  unfold putN
  intro he
  simp only at he ⊢
  split
  · rfl
  · rename_i h1
    rw [if_neg h1] at he
    split at he
    · exact he
    · exact h he
theorem Lin.ext' {a b : Lin} (h1 : a.sym = b.sym ∧ a.minus = b.minus) (h2 : a.num = b.num) : a = b := by
  obtain ⟨_, _, _⟩ := a
  obtain ⟨_, _, _⟩ := b
  simp only at h1 h2
  rw [h1.1, h1.2, h2]
theorem putN_add {name : List UInt8} {n : Int} (hn : name ≠ []) {a b r r' : Lin} {s : Int} (hs : s = 1 ∨ s = -1) (h : addL a b s = some r) (h' : addL (putN name n a) (putN name n b) s = some r') : r' = putN name n r ∧ r.good := by
  obtain ⟨k1, k2, k3⟩ := addL_coef hs h
  obtain ⟨j1, j2, j3⟩ := addL_coef hs h'
  refine ⟨Lin.ext' (coef_ext j2 (putN_good k2) fun x hx => ?_) ?_, k2⟩
  · rw [j3 x hx, putN_coef _ _ hx, putN_coef _ _ hx, putN_coef _ _ hx, k3 x hx]
    split
    · rcases hs with rfl | rfl <;> rfl
    · rfl
  · rw [j1]
    show _ = r.num + n * coef r name
    rw [k1, k3 _ hn]
    show (a.num + n * coef a name) + s * (b.num + n * coef b name) = _
    rw [Int.mul_add, Int.mul_add, ← Int.mul_assoc, ← Int.mul_assoc, Int.mul_comm s n]
    omega
theorem putN_flat {name : List UInt8} {n : Int} (hn : name ≠ []) {a : Lin} (h : a.flat = true) : putN name n a = a := by
  unfold Lin.flat at h
  simp only [Bool.and_eq_true, decide_eq_true_eq] at h
  obtain ⟨s, m, k⟩ := a
  simp only at h
  obtain ⟨rfl, rfl⟩ := h
  simp [putN, coef, one_nil hn]
theorem zero_good : Lin.zero.good := fun _ => rfl
theorem flat_good {k : Int} : (⟨[], [], k⟩ : Lin).good := fun _ => rfl
theorem codeOf_ok {ok : Bool} {c n : Int} (h : codeOf ok c n = 0) : ok = true := (code_near h).2.2.1
theorem putN_zero {name : List UInt8} {n : Int} (hn : name ≠ []) : putN name n Lin.zero = Lin.zero := putN_flat hn rfl
theorem putN_node {name : List UInt8} {n : Int} (hn : name ≠ []) {x : Nd} {i : Nat} (hx : nodeErr x i = 0) {V : List Lin} (hV : ∀ v ∈ V, v.good)
    (h : (nodeVal x V []).2 = 0) (h' : (nodeVal x (V.map (putN name n)) [⟨name, ⟨[], [], n⟩⟩]).2 = 0) : (nodeVal x (V.map (putN name n)) [⟨name, ⟨[], [], n⟩⟩]).1 = putN name n (nodeVal x V []).1 ∧ (nodeVal x V []).1.good := by
  have gA : ∀ i : Nat, (V.getD i Lin.zero).good := fun i => by
    rw [List.getD_eq_getElem?_getD]
    cases hh : V[i]? with
    | none => exact zero_good
    | some v => exact hV v (List.mem_of_getElem? hh)
  have mA : ∀ i : Nat, (V.map (putN name n)).getD i Lin.zero = putN name n (V.getD i Lin.zero) := fun i => by
    rw [List.getD_eq_getElem?_getD, List.getD_eq_getElem?_getD, List.getElem?_map]
    cases V[i]? with
    | none => exact (putN_zero hn).symm
    | some v => rfl
  have ea : argA x (V.map (putN name n)) = putN name n (argA x V) := by
    unfold argA
    split
    · exact mA _
    · exact (putN_zero hn).symm
  have eb : argB x (V.map (putN name n)) = putN name n (argB x V) := by
    unfold argB
    split
    · exact mA _
    · exact (putN_zero hn).symm
  have hc := codeOf_ok h
  have hc' := codeOf_ok h'
  simp only [nodeVal] at *
  unfold rawVal at *
  rw [ea, eb] at *
  clear h h'
  generalize argA x V = a at *
  generalize argB x V = b at *
  by_cases k1 : x.kind = 1
  · rw [if_pos k1, if_pos k1]
    exact ⟨(putN_flat hn rfl).symm, flat_good⟩
  rw [if_neg k1] at hc hc' ⊢
  rw [if_neg k1]
  by_cases k2 : x.kind = 2
  · rw [if_pos k2, if_pos k2]
    have hxn : x.name ≠ [] := by
      have := (nodeErr_zero hx).2.2.1 k2
      rintro he
      rw [he] at this
      simp [nameOk] at this
    simp only [List.map_nil, List.map_cons, idx]
    by_cases he : name = x.name
    · simp [he, putN, coef, one, hxn, Lin.good]
    · have he' : ¬ x.name = name := fun h => he h.symm
      simp [he, he', putN, coef, one, Ne.symm hn, hn, Lin.good]
  rw [if_neg k2] at hc hc' ⊢
  rw [if_neg k2]
  by_cases k3 : x.kind = 3
  · rw [if_pos k3] at hc hc' ⊢
    rw [if_pos k3]
    obtain ⟨r, hr⟩ := Option.isSome_iff_exists.1 hc
    obtain ⟨r', hr'⟩ := Option.isSome_iff_exists.1 hc'
    rw [hr, hr', Option.getD_some, Option.getD_some]
    exact putN_add hn (a := Lin.zero) (b := a) (.inr rfl) hr (by rw [putN_zero hn]; exact hr')
  rw [if_neg k3] at hc hc' ⊢
  rw [if_neg k3]
  by_cases k5 : x.kind = 5
  · rw [if_pos k5] at hc hc' ⊢
    rw [if_pos k5]
    obtain ⟨r, hr⟩ := Option.isSome_iff_exists.1 hc
    obtain ⟨r', hr'⟩ := Option.isSome_iff_exists.1 hc'
    rw [hr, hr', Option.getD_some, Option.getD_some]
    exact putN_add hn (.inl rfl) hr hr'
  rw [if_neg k5] at hc hc' ⊢
  rw [if_neg k5]
  by_cases k6 : x.kind = 6
  · rw [if_pos k6] at hc hc' ⊢
    rw [if_pos k6]
    obtain ⟨r, hr⟩ := Option.isSome_iff_exists.1 hc
    obtain ⟨r', hr'⟩ := Option.isSome_iff_exists.1 hc'
    rw [hr, hr', Option.getD_some, Option.getD_some]
    exact putN_add hn (.inr rfl) hr hr'
  rw [if_neg k6] at hc hc' ⊢
  rw [if_neg k6]
  by_cases k4 : x.kind = 4
  · rw [if_pos k4] at hc hc' ⊢
    rw [if_pos k4]
    simp only at hc
    rw [putN_flat hn hc]
    exact ⟨(putN_flat hn rfl).symm, flat_good⟩
  rw [if_neg k4] at hc hc' ⊢
  rw [if_neg k4]
  by_cases kf : (a.flat && b.flat) = true
  · obtain ⟨f1, f2⟩ := Bool.and_eq_true_iff.1 kf
    rw [putN_flat hn f1, putN_flat hn f2, if_pos kf]
    exact ⟨(putN_flat hn rfl).symm, flat_good⟩
  · rw [if_neg kf] at hc
    simp at hc
theorem putN_eval {name : List UInt8} {n : Int} (hn : name ≠ []) : ∀ (l : List Nd) (V A B : List Lin), (∀ x ∈ l, ∃ i, nodeErr x i = 0) → (∀ v ∈ V, v.good) → evalL [] l V = .inr A → evalL [⟨name, ⟨[], [], n⟩⟩] l (V.map (putN name n)) = .inr B → B = A.map (putN name n) ∧ ∀ v ∈ A, v.good
  | [], V, A, B, _, hV, h, h' => by
    simp only [evalL, Sum.inr.injEq] at h h'
    subst h; subst h'
    exact ⟨rfl, hV⟩
  | x :: l, V, A, B, hE, hV, h, h' => by
    unfold evalL at h h'
    obtain ⟨i, hx⟩ := hE x (by simp)
    split at h
    · simp at h
    · rename_i hz
      split at h'
      · simp at h'
      · rename_i hz'
        obtain ⟨e1, e2⟩ := putN_node hn hx hV (Decidable.not_not.1 hz) (Decidable.not_not.1 hz')
        rw [e1] at h'
        refine putN_eval hn l (V ++ [(nodeVal x V []).1]) A B (fun y hy => hE y (by simp [hy])) (fun v hv => ?_) h (by rw [List.map_append, List.map_cons, List.map_nil]; exact h')
        rcases List.mem_append.1 hv with hv | hv
        · exact hV v hv
        · simp at hv; subst hv; exact e2
theorem eval_small {S : List Sy} (hS : ∀ y ∈ S, symErr y = 0) : ∀ (l : List Nd) (V A : List Lin), (∀ x ∈ l, ∃ i, nodeErr x i = 0) → (∀ v ∈ V, v.small) → evalL S l V = .inr A → ∀ v ∈ A, v.small
  | [], V, A, _, hV, h => by
    simp only [evalL, Sum.inr.injEq] at h
    subst h
    exact hV
  | x :: l, V, A, hE, hV, h => by
    unfold evalL at h
    obtain ⟨i, hx⟩ := hE x (by simp)
    split at h
    · simp at h
    · rename_i hz
      refine eval_small hS l _ A (fun y hy => hE y (by simp [hy])) (fun v hv => ?_) h
      rcases List.mem_append.1 hv with hv | hv
      · exact hV v hv
      · simp at hv; subst hv; exact nodeVal_small hx hS hV (Decidable.not_not.1 hz)
theorem evalL_len {S : List Sy} : ∀ (l : List Nd) (V A : List Lin), evalL S l V = .inr A → A.length = V.length + l.length
  | [], V, A, h => by
    simp only [evalL, Sum.inr.injEq] at h
    subst h; simp
  | x :: l, V, A, h => by
    unfold evalL at h
    split at h
    · simp at h
    · have := evalL_len l _ A h
      simp at this ⊢
      omega
/-- A value that is there: what it is. -/
theorem valueOf_ok {E : List Nd} {S : List Sy} (h : (valueOf E S).2.1 = 0) : exprFault E = (0, 0) ∧ symsFault S = (0, 0) ∧ 1 ≤ E.length ∧ E.length ≤ 60 ∧ (∀ x ∈ E, ∃ i, nodeErr x i = 0) ∧ (∀ y ∈ S, symErr y = 0) ∧
    ∃ A w, evalL S E [] = .inr A ∧ A.getLast? = some w ∧ w ∈ A ∧ valueOf E S = (w, (0, 0)) := by
  unfold valueOf at h ⊢
  by_cases hv : (valFault E S).1 ≠ 0
  · rw [if_pos hv] at h
    exact absurd h hv
  · rw [if_neg hv] at h ⊢
    have hv' : (valFault E S).1 = 0 := Decidable.not_not.1 hv
    unfold valFault at hv'
    split at hv'
    · rename_i he
      obtain ⟨k1, k2, k3, k4⟩ := exprFault_zero he
      obtain ⟨j1, j2, j3⟩ := symsFault_zero hv'
      refine ⟨k1, j1, k2, k3, fun x hx => ?_, j3, ?_⟩
      · obtain ⟨i, hi⟩ := List.getElem?_of_mem hx
        exact ⟨i, k4 i x hi⟩
      · cases hev : evalL S E [] with
        | inl f =>
          rw [hev] at h
          exfalso
          have : ∀ (l : List Nd) (V : List Lin) (f : Int × Int), evalL S l V = .inl f → f.1 ≠ 0 := by
            intro l
            induction l with
            | nil => intro V f h; simp [evalL] at h
            | cons x l ih =>
              intro V f h
              unfold evalL at h
              split at h
              · rename_i hz
                simp only [Sum.inl.injEq] at h
                subst h
                exact hz
              · exact ih _ _ h
          exact this _ _ _ hev h
        | inr A =>
          have hl := evalL_len E [] A hev
          simp at hl
          obtain ⟨w, hw⟩ : ∃ w, A.getLast? = some w := by
            cases hg : A.getLast? with
            | none => rw [List.getLast?_eq_none_iff] at hg; subst hg; simp at hl; omega
            | some w => exact ⟨w, rfl⟩
          exact ⟨A, w, rfl, hw, List.mem_of_getLast? hw, by simp only [hw, Option.getD_some]⟩
    · rename_i he
      exact absurd hv' he
/-- **A number before or after.** -/
theorem subs_law {E : List Nd} {name : List UInt8} {n : Int} (h : (valueOf E []).2.1 = 0) (h' : (valueOf E [⟨name, ⟨[], [], n⟩⟩]).2.1 = 0) :
    (valueOf E [⟨name, ⟨[], [], n⟩⟩]).1 = putN name n (valueOf E []).1 ∧ (valueOf E []).1.good ∧ (valueOf E []).1.small ∧ name ≠ [] ∧ (-1099511627776 ≤ n ∧ n ≤ 1099511627776) := by
  obtain ⟨_, _, _, _, hE, _, A, w, e1, e2, e3, e4⟩ := valueOf_ok h
  obtain ⟨_, _, _, _, _, hS, B, w', d1, d2, d3, d4⟩ := valueOf_ok h'
  have hy := hS _ (List.mem_singleton.2 rfl)
  obtain ⟨s1, s2, s3⟩ := symErr_zero hy
  have hn : name ≠ [] := by
    rintro rfl
    simp [nameOk] at s1
  obtain ⟨r1, r2⟩ := putN_eval hn E [] A B hE (by simp) e1 (by simpa using d1)
  rw [e4, d4]
  subst r1
  rw [List.getLast?_map, e2] at d2
  refine ⟨(Option.some.inj d2).symm, r2 w e3, eval_small (by simp) E [] A hE (by simp) e1 w e3, hn, s2.2.2.1, s2.2.2.2⟩
end Go.Proofs.YtkgdkommahgakaaDoor.Abs

/- The plain law of parentheses and of two signs of negation. -/
namespace Go.Proofs.YtkgdkommahgakaaDoor.Gram
set_option linter.unusedVariables false
variable {N : Type}
theorem no_cand {pre l : List (Cl N)} (hpre : ∀ c ∈ pre, c.par = 0 ∧ c.ends = false) (hD : ∀ p q, l = p ++ q → 0 ≤ net p) (p : List (Cl N)) (c : Cl N) (q : List (Cl N)) : ¬ Cand (pre ++ Cl.lp :: (l ++ [.rp])) p c q := by
  rintro ⟨h1, h2, h3, h4⟩
  have hnp : net pre = 0 := by
    clear h1
    induction pre with
    | nil => rfl
    | cons x pre ih => rw [net, (hpre x (by simp)).1, ih fun c hc => hpre c (by simp [hc])]; rfl
  rcases List.append_eq_append_iff.1 h1 with ⟨a, ha, hb⟩ | ⟨a, ha, hb⟩
  · subst ha
    cases a with
    | nil =>
      simp only [List.nil_append, List.cons.injEq] at hb
      rw [← hb.1] at h4
      simp [Cl.lvl] at h4
    | cons x a =>
      simp only [List.cons_append, List.cons.injEq] at hb
      obtain ⟨rfl, hb⟩ := hb
      rw [net_append, net, hnp] at h2
      rcases List.append_eq_append_iff.1 hb with ⟨a2, ha2, hb2⟩ | ⟨a2, ha2, hb2⟩
      · cases a2 with
        | nil =>
          simp only [List.nil_append, List.cons.injEq] at hb2
          rw [← hb2.1] at h4
          simp [Cl.lvl] at h4
        | cons y a2 =>
          have := congrArg List.length hb2
          simp at this
      · have := hD a a2 ha2
        simp only [Cl.par, Cl.isL, if_true] at h2
        omega
  · have hne := lastEnds_ne h3
    unfold lastEnds at h3
    obtain ⟨z, hz⟩ : ∃ z, p.getLast? = some z := by
      cases hg : p.getLast? with
      | none => exact absurd (List.getLast?_eq_none_iff.1 hg) hne
      | some z => exact ⟨z, rfl⟩
    rw [hz] at h3
    simp only at h3
    have := (hpre z (by rw [ha]; exact List.mem_append_left _ (List.mem_of_getLast? hz))).2
    rw [h3] at this
    simp at this
theorem scan_no {l : List (Cl N)} (h : ∀ p c q, ¬ Cand l p c q) : scan l 0 0 false none = none := by
  cases hs : scan l 0 0 false none with
  | none => rfl
  | some b =>
    obtain ⟨b, m⟩ := b
    obtain ⟨p, c, q, hC, _⟩ := scan_some hs
    exact absurd hC (h p c q)
theorem nd_group {F d k e : Nat} {l : List (Cl N)} {t0 t : Tr N} (hD : Der k e l t0) (h : nd (F + 1) d (.lp :: (l ++ [.rp])) = some t) : nd F (d + 1) l = some t := by
  have hs := scan_no (no_cand (pre := []) (by simp) hD.net.2.2)
  rw [List.nil_append] at hs
  unfold nd at h
  rw [hs] at h
  split at h
  · simp at h
  · have hl := hD.ne
    simp only [Cl.un, Cl.isL] at h
    rw [if_pos (by simp [Cl.isR, hl]), List.dropLast_concat] at h
    exact h
theorem nd_sign {F d k e : Nat} {c : Cl N} {pre l : List (Cl N)} {u : Int} {t0 t : Tr N} (hc : c.un = some u) (hpre : ∀ c ∈ pre, c.par = 0 ∧ c.ends = false) (hD : Der k e l t0) (h : nd (F + 1) d (c :: (pre ++ .lp :: (l ++ [.rp]))) = some t) :
    ∃ t1, nd F (d + 1) (pre ++ .lp :: (l ++ [.rp])) = some t1 ∧ t = .un u t1 := by
  unfold nd at h
  have hs := scan_no (no_cand (pre := c :: pre) (fun x hx => by
    rcases List.mem_cons.1 hx with rfl | hx
    · exact un_par hc
    · exact hpre x hx) hD.net.2.2)
  rw [List.cons_append] at hs
  rw [hs] at h
  split at h
  · simp at h
  · simp only [hc] at h
    split at h
    · simp at h
    · rename_i t1 h1
      exact ⟨t1, h1, (Option.some.inj h).symm⟩
theorem nd_same {F G d e : Nat} {l : List (Cl N)} {t t' : Tr N} (hok : ∀ c ∈ l, c.ok) (h : nd F d l = some t) (h' : nd G e l = some t') : t = t' := by
  have h1 := nd_sound F d l t hok h
  have h2 := nd_sound G e l t' hok h'
  exact nd_depth hok (nd_complete (l.length + 1) h1.1 h1.2 (by omega)) (nd_complete (l.length + 1) h2.1 h2.2 (by omega))
end Go.Proofs.YtkgdkommahgakaaDoor.Gram
namespace Go.Proofs.YtkgdkommahgakaaDoor.Abs
open Go Go.RowKit Gram
set_option linter.unusedVariables false
set_option linter.unusedSimpArgs false
set_option maxRecDepth 100000

def tkS (s : List UInt8) : Tk := ⟨3, s, 0, 0⟩
theorem cls_open : cls (tkS [40]) = .lp := by simp [cls, tkS]
theorem cls_shut : cls (tkS [41]) = .rp := by simp [cls, tkS]
theorem cls_neg : (cls (tkS [45])).un = some 3 := by
  rw [cls_minus rfl rfl]
  rfl
theorem toks_ok (L : List Tk) : ∀ c ∈ L.map cls, c.ok := fun c hc => by
  obtain ⟨x, _, rfl⟩ := List.mem_map.1 hc
  exact cls_ok x
theorem par_nodes {L : List Tk} {t t2 : Tr Nd} (h : nodesOf L = some t) (h2 : nodesOf (tkS [40] :: (L ++ [tkS [41]])) = some t2) : t2 = t := by
  unfold nodesOf at h h2
  rw [List.map_cons, List.map_append, List.map_cons, List.map_nil, cls_open, cls_shut] at h2
  exact nd_same (toks_ok L) (nd_group (nd_sound _ _ _ _ (toks_ok L) h).1 h2) h
theorem neg_nodes {L : List Tk} {t t3 : Tr Nd} (h : nodesOf L = some t) (h3 : nodesOf (tkS [45] :: tkS [45] :: tkS [40] :: (L ++ [tkS [41]])) = some t3) : t3 = .un 3 (.un 3 t) := by
  have hD := (nd_sound _ _ _ _ (toks_ok L) h).1
  unfold nodesOf at h h3
  rw [List.map_cons, List.map_cons, List.map_cons, List.map_append, List.map_cons, List.map_nil, cls_open, cls_shut] at h3
  obtain ⟨t1, h4, rfl⟩ := nd_sign (pre := [cls (tkS [45])]) cls_neg (fun c hc => by rw [List.mem_singleton.1 hc]; exact un_par cls_neg) hD h3
  obtain ⟨t2, h5, rfl⟩ := nd_sign (pre := []) cls_neg (by simp) hD h4
  rw [nd_same (toks_ok L) (nd_group hD h5) h]

theorem node_good {x : Nd} {V : List Lin} {S : List Sy} (hS : ∀ y ∈ S, symErr y = 0) (hV : ∀ v ∈ V, v.good) (h : (nodeVal x V S).2 = 0) : (nodeVal x V S).1.good := by
  have gA : ∀ i : Nat, (V.getD i Lin.zero).good := fun i => by
    rw [List.getD_eq_getElem?_getD]
    cases hh : V[i]? with
    | none => exact zero_good
    | some v => exact hV v (List.mem_of_getElem? hh)
  have hc := codeOf_ok h
  have add : ∀ {a b : Lin} {s : Int}, (s = 1 ∨ s = -1) → (addL a b s).isSome = true → ((addL a b s).getD Lin.zero).good := by
    intro a b s hs h
    obtain ⟨r, hr⟩ := Option.isSome_iff_exists.1 h
    rw [hr, Option.getD_some]
    exact (addL_coef hs hr).2.1
  simp only [nodeVal] at *
  unfold rawVal at *
  clear h
  by_cases k1 : x.kind = 1
  · rw [if_pos k1]; exact flat_good
  rw [if_neg k1] at hc ⊢
  by_cases k2 : x.kind = 2
  · rw [if_pos k2]
    simp only
    split
    · cases hh : S[(idx (S.map (·.name)) x.name).toNat]? with
      | none => exact zero_good
      | some y => exact (symErr_zero (hS y (List.mem_of_getElem? hh))).2.2
    · exact fun he => he
  rw [if_neg k2] at hc ⊢
  by_cases k3 : x.kind = 3
  · rw [if_pos k3] at hc ⊢; exact add (.inr rfl) hc
  rw [if_neg k3] at hc ⊢
  by_cases k5 : x.kind = 5
  · rw [if_pos k5] at hc ⊢; exact add (.inl rfl) hc
  rw [if_neg k5] at hc ⊢
  by_cases k6 : x.kind = 6
  · rw [if_pos k6] at hc ⊢; exact add (.inr rfl) hc
  rw [if_neg k6] at hc ⊢
  by_cases k4 : x.kind = 4
  · rw [if_pos k4]; exact flat_good
  rw [if_neg k4] at hc ⊢
  split
  · exact flat_good
  · exact zero_good
theorem eval_good {S : List Sy} (hS : ∀ y ∈ S, symErr y = 0) : ∀ (l : List Nd) (V A : List Lin), (∀ v ∈ V, v.good) → evalL S l V = .inr A → ∀ v ∈ A, v.good
  | [], V, A, hV, h => by
    simp only [evalL, Sum.inr.injEq] at h
    subst h
    exact hV
  | x :: l, V, A, hV, h => by
    unfold evalL at h
    split at h
    · simp at h
    · rename_i hz
      refine eval_good hS l _ A (fun v hv => ?_) h
      rcases List.mem_append.1 hv with hv | hv
      · exact hV v hv
      · simp at hv; subst hv; exact node_good hS hV (Decidable.not_not.1 hz)
theorem firstE_all : ∀ (l : List Nd) (i : Nat), (∀ (j : Nat) x, l[j]? = some x → nodeErr x (i + j) = 0) → firstE i l = (0, 0)
  | [], i, _ => rfl
  | x :: l, i, h => by
    unfold firstE
    have h0 := h 0 x rfl
    rw [Nat.add_zero] at h0
    rw [if_neg (by simp [h0])]
    exact firstE_all l (i + 1) fun j y hy => by have := h (j + 1) y (by simpa using hy); rwa [show i + 1 + j = i + (j + 1) by omega]
theorem evalL_append {S : List Sy} : ∀ (l m : List Nd) (V A : List Lin), evalL S l V = .inr A → evalL S (l ++ m) V = evalL S m A
  | [], m, V, A, h => by
    simp only [evalL, Sum.inr.injEq] at h
    subst h; rfl
  | x :: l, m, V, A, h => by
    rw [List.cons_append, evalL]
    rw [evalL] at h
    split at h
    · simp at h
    · rename_i hz
      rw [if_neg hz]
      exact evalL_append l m _ A h
theorem neg_add {w : Lin} (hg : w.good) : addL Lin.zero w (-1) = some ⟨w.minus, w.sym, -w.num⟩ := by
  unfold addL turn sumL cancel Lin.zero
  by_cases h1 : w.minus = []
  · simp [h1]
  · have h2 : ¬ w.sym = w.minus := fun he => h1 (by rw [← he]; exact hg he)
    simp [h1, h2, Ne.symm h1]
theorem neg_val {V : List Lin} {S : List Sy} {w : Lin} (hg : w.good) (hs : w.small) {i : Nat} (hw : V[i]? = some w) : nodeVal ⟨3, 0, [], i, 0⟩ V S = (⟨w.minus, w.sym, -w.num⟩, 0) := by
  have ha : argA ⟨3, 0, [], i, 0⟩ V = w := by
    unfold argA
    rw [if_pos (by simp), Int.toNat_natCast, List.getD_eq_getElem?_getD, hw]
    rfl
  unfold nodeVal rawVal
  rw [ha, neg_add hg]
  obtain ⟨_, _, s3, s4⟩ := hs
  simp [codeOf]
  omega
theorem neg_neg {E : List Nd} {S : List Sy} (h : (valueOf E S).2.1 = 0) (hl : E.length + 2 ≤ 60) : valueOf (E ++ [⟨3, 0, [], (E.length : Int) - 1, 0⟩, ⟨3, 0, [], E.length, 0⟩]) S = valueOf E S := by
  obtain ⟨k1, k2, k3, k4, k5, hS, A, w, e1, e2, e3, e4⟩ := valueOf_ok h
  have hgw := eval_good hS E [] A (by simp) e1 w e3
  have hsw := eval_small hS E [] A k5 (by simp) e1 w e3
  have hA := evalL_len E [] A e1
  simp only [List.length_nil, Nat.zero_add] at hA
  have hx : exprFault (E ++ [⟨3, 0, [], (E.length : Int) - 1, 0⟩, ⟨3, 0, [], E.length, 0⟩]) = (0, 0) := by
    rw [exprFault, if_neg (by simp; omega)]
    refine firstE_all _ 0 fun j x hj => ?_
    rw [Nat.zero_add]
    by_cases hjl : j < E.length
    · rw [List.getElem?_append_left hjl] at hj
      exact ((exprFault_zero (by rw [k1])).2.2.2) j x hj
    · rw [List.getElem?_append_right (by omega)] at hj
      by_cases h0 : j - E.length = 0
      · rw [h0] at hj
        simp only [List.getElem?_cons_zero, Option.some.injEq] at hj
        subst hj
        unfold nodeErr
        simp
        omega
      · by_cases h1 : j - E.length = 1
        · rw [h1] at hj
          simp only [List.getElem?_cons_succ, List.getElem?_cons_zero, Option.some.injEq] at hj
          subst hj
          unfold nodeErr
          simp
          omega
        · rw [List.getElem?_eq_none (by simp; omega)] at hj
          simp at hj
  have hv : valFault (E ++ [⟨3, 0, [], (E.length : Int) - 1, 0⟩, ⟨3, 0, [], E.length, 0⟩]) S = (0, 0) := by
    rw [valFault, hx, if_pos rfl, k2]
  have hw1 : A[E.length - 1]? = some w := by rw [← hA, ← List.getLast?_eq_getElem?]; exact e2
  have ne : ((E.length : Int) - 1) = ((E.length - 1 : Nat) : Int) := by omega
  have n1 := neg_val (V := A) (S := S) hgw hsw hw1
  have hsw2 : (⟨w.minus, w.sym, -w.num⟩ : Lin).small := ⟨hsw.2.1, hsw.1, by have := hsw.2.2.2; simp only; omega, by have := hsw.2.2.1; simp only; omega⟩
  have hgw2 : (⟨w.minus, w.sym, -w.num⟩ : Lin).good := fun he => by
    simp only at he ⊢
    rw [he]
    exact hgw he.symm
  have n2 := neg_val (V := A ++ [⟨w.minus, w.sym, -w.num⟩]) (S := S) hgw2 hsw2 (i := E.length) (by rw [List.getElem?_append_right (by omega)]; simp [hA])
  rw [valueOf, hv, if_neg (by simp), evalL_append E _ [] A e1, evalL, ne, n1]
  simp only [ne_eq, not_true_eq_false, if_false]
  rw [evalL, n2]
  simp only [ne_eq, not_true_eq_false, if_false, evalL, e4]
  simp
/-- **Parentheses, and two signs of negation.** -/
theorem spaces_par {L : List Tk} {t t2 : Tr Nd} (h : parseOf L = some t) (h2 : parseOf (tkS [40] :: (L ++ [tkS [41]])) = some t2) : t2 = t := par_nodes ((parse_nodes _ _).1 h).1 ((parse_nodes _ _).1 h2).1
theorem spaces_neg {L : List Tk} {t t3 : Tr Nd} {S : List Sy} (h : parseOf L = some t) (h3 : parseOf (tkS [45] :: tkS [45] :: tkS [40] :: (L ++ [tkS [41]])) = some t3) (hv : (valueOf (post t []) S).2.1 = 0) : valueOf (post t3 []) S = valueOf (post t []) S := by
  obtain ⟨h4, h5⟩ := (parse_nodes _ _).1 h3
  obtain rfl := neg_nodes ((parse_nodes _ _).1 h).1 h4
  have hl := post_len t []
  simp only [List.length_nil, Nat.zero_add] at hl
  have e : post (.un 3 (.un 3 t)) [] = post t [] ++ [⟨3, 0, [], ((post t []).length : Int) - 1, 0⟩, ⟨3, 0, [], (post t []).length, 0⟩] := by
    simp only [post, List.append_assoc, List.cons_append, List.nil_append, List.length_append, List.length_cons, List.length_nil]
    simp
  rw [e]
  simp only [Tr.size] at h5
  exact neg_neg hv (by rw [hl]; omega)
end Go.Proofs.YtkgdkommahgakaaDoor.Abs

/- The plain law of an expression's tokens: they are read back as its tree, which has its value. -/
namespace Go.Proofs.YtkgdkommahgakaaDoor.Gram
set_option linter.unusedVariables false
variable {N : Type}
/-- All operations in parentheses. -/
inductive Clo : List (Cl N) → Tr N → Prop
  | atom (a : N) : Clo [.atom a] (.atom a)
  | un (c : Cl N) (k : Int) (l : List (Cl N)) (t : Tr N) (hc : c.un = some k) (h : Clo l t) : Clo (c :: l) (.un k t)
  | par (c : Cl N) (l m : List (Cl N)) (a b : Tr N) (hc : 0 < c.lvl) (h : Clo l a) (h' : Clo m b) : Clo (.lp :: ((l ++ c :: m) ++ [.rp])) (.bin c.kind a b)
theorem pre_mid {l m : List (Cl N)} {c : Cl N} (hc : 0 < c.lvl) (hl : net l = 0) (h1 : ∀ p q, l = p ++ q → 0 ≤ net p) (h2 : ∀ p q, m = p ++ q → 0 ≤ net p) : ∀ p q, l ++ c :: m = p ++ q → 0 ≤ net p := by
  intro p q h
  rcases List.append_eq_append_iff.1 h with ⟨a, ha, hb⟩ | ⟨a, ha, hb⟩
  · subst ha
    rw [net_append, hl]
    cases a with
    | nil => simp [net]
    | cons x a =>
      simp only [List.cons_append, List.cons.injEq] at hb
      obtain ⟨rfl, hb⟩ := hb
      have := h2 a q hb
      rw [net, (lvl_par hc).1]
      omega
  · exact h1 p a ha
theorem pre_par {X : List (Cl N)} (h0 : net X = 0) (h : ∀ p q, X = p ++ q → 0 ≤ net p) : ∀ p q, Cl.lp :: (X ++ [.rp]) = p ++ q → 0 ≤ net p := by
  intro p q hp
  cases p with
  | nil => simp [net]
  | cons x p =>
    simp only [List.cons_append, List.cons.injEq] at hp
    obtain ⟨rfl, hp⟩ := hp
    have e : (Cl.lp : Cl N).par = 1 := rfl
    rw [net, e]
    rcases List.append_eq_append_iff.1 hp with ⟨a, ha, hb⟩ | ⟨a, ha, hb⟩
    · subst ha
      rw [net_append, h0]
      cases a with
      | nil => simp [net]
      | cons y a =>
        simp only [List.cons_append, List.cons.injEq] at hb
        obtain ⟨rfl, hb⟩ := hb
        have : a = [] := by cases a <;> simp_all
        subst this
        have e2 : (Cl.rp : Cl N).par = -1 := rfl
        simp only [net, e2]
        omega
    · have := h p a ha
      omega
theorem Clo.facts {l : List (Cl N)} {t : Tr N} (h : Clo l t) : net l = 0 ∧ lastEnds l = true ∧ (∀ p q, l = p ++ q → 0 ≤ net p) ∧ (∀ p c q, ¬ Cand l p c q) ∧ 0 < l.length := by
  induction h with
  | atom a =>
    refine ⟨rfl, rfl, fun p q h => ?_, fun p c q h => ?_, by simp⟩
    · cases p with
      | nil => simp [net]
      | cons x p =>
        simp only [List.cons_append, List.cons.injEq] at h
        have : p = [] := by cases p <;> simp_all
        subst this
        rw [← h.1]
        simp [net, Cl.par, Cl.isL, Cl.isR]
    · have h1 := h.eq
      cases p with
      | nil => have := h.ends; simp [lastEnds] at this
      | cons x p => have := congrArg List.length h1; simp at this
  | un c k l t hc h ih =>
    obtain ⟨i1, i2, i3, i4, i5⟩ := ih
    obtain ⟨u1, u2⟩ := un_par hc
    refine ⟨by rw [net, u1, i1]; rfl, by rw [lastEnds_cons (by rintro rfl; simp at i5), i2], fun p q h => ?_, fun p c' q h => ?_, by simp⟩
    · cases p with
      | nil => simp [net]
      | cons x p =>
        simp only [List.cons_append, List.cons.injEq] at h
        obtain ⟨rfl, h⟩ := h
        rw [net, u1]
        have := i3 p q h
        omega
    · obtain ⟨h1, h2, h3, h4⟩ := h
      cases p with
      | nil => simp [lastEnds] at h3
      | cons x p =>
        simp only [List.cons_append, List.cons.injEq] at h1
        obtain ⟨rfl, h1⟩ := h1
        by_cases hp : p = []
        · subst hp
          rw [lastEnds_one, u2] at h3
          simp at h3
        · rw [lastEnds_cons hp] at h3
          rw [net, u1] at h2
          exact i4 p c' q ⟨h1, by omega, h3, h4⟩
  | par c l m a b hc h h' ih ih' =>
    obtain ⟨i1, i2, i3, i4, i5⟩ := ih
    obtain ⟨j1, j2, j3, j4, j5⟩ := ih'
    have hX := pre_mid hc i1 i3 j3
    have h0 : net (l ++ c :: m) = 0 := by rw [net_append, net, i1, j1, (lvl_par hc).1]; rfl
    refine ⟨?_, ?_, pre_par h0 hX, no_cand (pre := []) (by simp) hX, by simp⟩
    · rw [net, net_append, h0]; rfl
    · rw [lastEnds_cons (by simp), lastEnds_append (by simp)]; rfl
theorem nd_clo {l : List (Cl N)} {t : Tr N} (h : Clo l t) : ∀ {F d : Nat} {t' : Tr N}, nd F d l = some t' → t' = t := by
  induction h with
  | atom a =>
    intro F d t' h
    cases F with
    | zero => simp [nd] at h
    | succ F =>
      unfold nd at h
      rw [scan_no (Clo.atom a).facts.2.2.2.1] at h
      split at h
      · simp at h
      · simp [Cl.un, Cl.isL] at h
        exact h.symm
  | un c k l t hc h ih =>
    intro F d t' hn
    cases F with
    | zero => simp [nd] at hn
    | succ F =>
      unfold nd at hn
      rw [scan_no (Clo.un c k l t hc h).facts.2.2.2.1] at hn
      split at hn
      · simp at hn
      · simp only [hc] at hn
        split at hn
        · simp at hn
        · rename_i t1 h1
          rw [ih h1] at hn
          exact (Option.some.inj hn).symm
  | par c l m a b hc h h' ih ih' =>
    intro F d t' hn
    cases F with
    | zero => simp [nd] at hn
    | succ F =>
      obtain ⟨i1, i2, i3, i4, i5⟩ := h.facts
      obtain ⟨j1, j2, j3, j4, j5⟩ := h'.facts
      unfold nd at hn
      rw [scan_no (Clo.par c l m a b hc h h').facts.2.2.2.1] at hn
      split at hn
      · simp at hn
      · simp only [Cl.un, Cl.isL] at hn
        rw [if_pos ⟨trivial, by rw [List.getLast?_concat]; rfl, by simp only [List.length_append, List.length_cons, List.length_nil]; omega⟩, List.dropLast_concat] at hn
        cases F with
        | zero => simp [nd] at hn
        | succ F =>
          unfold nd at hn
          split at hn
          · simp at hn
          · have hC : Cand (l ++ c :: m) l c m := ⟨rfl, i1, i2, hc⟩
            have only : ∀ p c' q, Cand (l ++ c :: m) p c' q → p = l := by
              rintro p c' q ⟨h1, h2, h3, h4⟩
              rcases List.append_eq_append_iff.1 h1 with ⟨x, hx, hy⟩ | ⟨x, hx, hy⟩
              · subst hx
                cases x with
                | nil => simp
                | cons y x =>
                  simp only [List.cons_append, List.cons.injEq] at hy
                  obtain ⟨rfl, hy⟩ := hy
                  exfalso
                  by_cases hp : x = []
                  · subst hp
                    rw [lastEnds_append (by simp), lastEnds_one, (lvl_par hc).2] at h3
                    simp at h3
                  · rw [lastEnds_append (by simp), lastEnds_cons hp] at h3
                    rw [net_append, net, i1, (lvl_par hc).1] at h2
                    exact j4 x c' q ⟨hy, by omega, h3, h4⟩
              · cases x with
                | nil => simp at hx; exact hx.symm
                | cons y x =>
                  simp only [List.cons_append, List.cons.injEq] at hy
                  obtain ⟨rfl, hy⟩ := hy
                  exact absurd ⟨hx, h2, h3, h4⟩ (i4 p c' x)
            split at hn
            · rename_i b0 m0 hs
              obtain ⟨p, c', q, hC', hb, _⟩ := scan_some hs
              obtain rfl := only p c' q hC'
              subst hb
              rw [List.take_left, show (p ++ c :: m).drop (p.length + 1) = m by rw [← List.drop_drop, List.drop_left]; rfl, show (p ++ c :: m).getD p.length Cl.other = c by simp] at hn
              split at hn
              · simp at hn
              · rename_i ta hta
                split at hn
                · simp at hn
                · rename_i tb htb
                  rw [ih hta, ih' htb] at hn
                  exact (Option.some.inj hn).symm
            · rename_i hs
              exact absurd hC (scan_none hs _ _ _)
end Go.Proofs.YtkgdkommahgakaaDoor.Gram
namespace Go.Proofs.YtkgdkommahgakaaDoor.Abs
open Go Go.RowKit Gram
set_option linter.unusedVariables false
set_option linter.unusedSimpArgs false
set_option maxRecDepth 100000

/-- The tokens of a node. -/
def toksF (E : List Nd) : Nat → Nat → List Tk
  | 0, _ => []
  | F + 1, i => match E[i]? with
    | none => []
    | some x => if x.kind = 1 then [⟨2, [], x.value, 0⟩] else if x.kind = 2 then [⟨1, x.name, 0, 0⟩]
      else if x.kind = 3 then tkS [45] :: toksF E F x.left.toNat else if x.kind = 4 then tkS [126] :: toksF E F x.left.toNat
      else tkS [40] :: ((toksF E F x.left.toNat ++ tkS (ops.getD (x.kind - 5).toNat []) :: toksF E F x.right.toNat) ++ [tkS [41]])
def treeF (E : List Nd) : Nat → Nat → Tr Nd
  | 0, _ => .atom ⟨1, 0, [], 0, 0⟩
  | F + 1, i => match E[i]? with
    | none => .atom ⟨1, 0, [], 0, 0⟩
    | some x => if x.kind = 1 then .atom ⟨1, x.value, [], 0, 0⟩ else if x.kind = 2 then .atom ⟨2, 0, x.name, 0, 0⟩
      else if x.kind = 3 ∨ x.kind = 4 then .un x.kind (treeF E F x.left.toNat) else .bin x.kind (treeF E F x.left.toNat) (treeF E F x.right.toNat)
def validE (E : List Nd) : Prop := ∀ (j : Nat) (x : Nd), E[j]? = some x → nodeErr x j = 0
theorem cls_op (k : Nat) (h : k < 10) : 0 < (cls (tkS (ops.getD k []))).lvl ∧ (cls (tkS (ops.getD k []))).kind = 5 + k := by
  have : ∀ k : Fin 10, 0 < (cls (tkS (ops.getD k.val []))).lvl ∧ (cls (tkS (ops.getD k.val []))).kind = 5 + (k.val : Int) := by decide +kernel
  exact this ⟨k, h⟩
theorem cls_inv : (cls (tkS [126])).un = some 4 := by
  rw [cls_tilde rfl rfl]
  rfl
theorem toks_clo {E : List Nd} (hE : validE E) : ∀ (F i : Nat), i < F → i < E.length → Clo ((toksF E F i).map cls) (treeF E F i) := by
  intro F
  induction F with
  | zero => intro i h; omega
  | succ F ih =>
    intro i hi hl
    obtain ⟨x, hx⟩ : ∃ x, E[i]? = some x := ⟨_, List.getElem?_eq_getElem hl⟩
    obtain ⟨n1, n2, n3, n4, n5⟩ := nodeErr_zero (hE i x hx)
    unfold toksF treeF
    simp only [hx]
    by_cases k1 : x.kind = 1
    · rw [if_pos k1, if_pos k1]
      exact .atom _
    rw [if_neg k1, if_neg k1]
    by_cases k2 : x.kind = 2
    · rw [if_pos k2, if_pos k2]
      exact .atom _
    rw [if_neg k2, if_neg k2]
    obtain ⟨l0, l1⟩ := n4 (by omega)
    have hL := ih x.left.toNat (by omega) (by omega)
    by_cases k3 : x.kind = 3
    · rw [if_pos k3, if_pos (.inl k3), k3]
      exact .un _ _ _ _ cls_neg hL
    rw [if_neg k3]
    by_cases k4 : x.kind = 4
    · rw [if_pos k4, if_pos (.inr k4), k4]
      exact .un _ _ _ _ cls_inv hL
    rw [if_neg k4, if_neg (by omega)]
    obtain ⟨r0, r1⟩ := n5 (by omega)
    have hR := ih x.right.toNat (by omega) (by omega)
    obtain ⟨o1, o2⟩ := cls_op (x.kind - 5).toNat (by omega)
    have o3 : (cls (tkS (ops.getD (x.kind - 5).toNat []))).kind = x.kind := by rw [o2]; omega
    have := Clo.par _ _ _ _ _ o1 hL hR
    rw [o3] at this
    simpa only [List.map_cons, List.map_append, List.map_nil, cls_open, cls_shut] using this

/-- The value of a tree. -/
def evT (S : List Sy) : Tr Nd → Option Lin
  | .atom n => if (nodeVal n [] S).2 = 0 then some (nodeVal n [] S).1 else none
  | .un k t => (evT S t).bind fun w => if (nodeVal ⟨k, 0, [], 0, 0⟩ [w] S).2 = 0 then some (nodeVal ⟨k, 0, [], 0, 0⟩ [w] S).1 else none
  | .bin k a b => (evT S a).bind fun w => (evT S b).bind fun w' => if (nodeVal ⟨k, 0, [], 0, 1⟩ [w, w'] S).2 = 0 then some (nodeVal ⟨k, 0, [], 0, 1⟩ [w, w'] S).1 else none
theorem nodeVal_arg {x y : Nd} {V W : List Lin} {S : List Sy} (hk : x.kind = y.kind) (h2 : x.kind ≠ 1) (h3 : x.kind ≠ 2) (ha : argA x V = argA y W) (hb : argB x V = argB y W) : nodeVal x V S = nodeVal y W S := by
  have : rawVal x V S = rawVal y W S := by
    unfold rawVal
    rw [ha, hb, ← hk, if_neg h2, if_neg h2, if_neg h3, if_neg h3]
  unfold nodeVal
  rw [this]
theorem nodeVal_1 {x : Nd} {V W : List Lin} {S : List Sy} (h : x.kind = 1) : nodeVal x V S = nodeVal ⟨1, x.value, [], 0, 0⟩ W S := by
  have : rawVal x V S = rawVal ⟨1, x.value, [], 0, 0⟩ W S := by
    unfold rawVal
    rw [if_pos h, if_pos rfl]
  unfold nodeVal
  rw [this]
theorem nodeVal_2 {x : Nd} {V W : List Lin} {S : List Sy} (h : x.kind = 2) : nodeVal x V S = nodeVal ⟨2, 0, x.name, 0, 0⟩ W S := by
  have : rawVal x V S = rawVal ⟨2, 0, x.name, 0, 0⟩ W S := by
    unfold rawVal
    simp [h]
  unfold nodeVal
  rw [this]
theorem argA_of {x : Nd} {V : List Lin} {i : Nat} {w : Lin} (hk : 2 < x.kind) (hl : x.left = i) (h : V[i]? = some w) : argA x V = w := by
  rw [argA, if_pos hk, hl, Int.toNat_natCast, List.getD_eq_getElem?_getD, h]
  rfl
theorem argB_of {x : Nd} {V : List Lin} {i : Nat} {w : Lin} (hk : 4 < x.kind) (hl : x.right = i) (h : V[i]? = some w) : argB x V = w := by
  rw [argB, if_pos hk, hl, Int.toNat_natCast, List.getD_eq_getElem?_getD, h]
  rfl
theorem argB_no {x : Nd} {V : List Lin} (hk : ¬ 4 < x.kind) : argB x V = Lin.zero := by rw [argB, if_neg hk]
/-- A list's values, one by one. -/
theorem evalL_at {S : List Sy} : ∀ (l : List Nd) (V A : List Lin), evalL S l V = .inr A → (∀ j, j < V.length → A[j]? = V[j]?) ∧ ∀ (j : Nat) x, l[j]? = some x → (nodeVal x (A.take (V.length + j)) S).2 = 0 ∧ A[V.length + j]? = some (nodeVal x (A.take (V.length + j)) S).1
  | [], V, A, h => by
    simp only [evalL, Sum.inr.injEq] at h
    subst h
    exact ⟨fun _ _ => rfl, fun j x hj => by simp at hj⟩
  | x :: l, V, A, h => by
    unfold evalL at h
    split at h
    · simp at h
    · rename_i hz
      obtain ⟨h1, h2⟩ := evalL_at l _ A h
      have hle := evalL_len l _ A h
      simp only [List.length_append, List.length_cons, List.length_nil] at h1 h2 hle
      have hA : A.take V.length = V := by
        apply List.ext_getElem?
        intro j
        rw [List.getElem?_take]
        split
        · rename_i hj
          rw [h1 j (by omega), List.getElem?_append_left hj]
        · rw [List.getElem?_eq_none (by omega)]
      refine ⟨fun j hj => by rw [h1 j (by omega), List.getElem?_append_left hj], fun j y hj => ?_⟩
      cases j with
      | zero =>
        simp only [List.getElem?_cons_zero, Option.some.injEq] at hj
        subst hj
        rw [Nat.add_zero, hA]
        refine ⟨Decidable.not_not.1 hz, ?_⟩
        rw [h1 V.length (by omega), List.getElem?_append_right (Nat.le_refl _), Nat.sub_self]
        rfl
      | succ j =>
        have := h2 j y (by simpa using hj)
        rwa [show V.length + (j + 1) = V.length + (0 + 1) + j by omega]
theorem tree_val {E : List Nd} (hE : validE E) {S : List Sy} {A : List Lin} (hA : evalL S E [] = .inr A) : ∀ (F i : Nat), i < F → i < E.length → evT S (treeF E F i) = A[i]? := by
  obtain ⟨_, hv⟩ := evalL_at E [] A hA
  have hlen := evalL_len E [] A hA
  simp only [List.length_nil, Nat.zero_add] at hv hlen
  intro F
  induction F with
  | zero => intro i h; omega
  | succ F ih =>
    intro i hi hl
    obtain ⟨x, hx⟩ : ∃ x, E[i]? = some x := ⟨_, List.getElem?_eq_getElem hl⟩
    obtain ⟨n1, n2, n3, n4, n5⟩ := nodeErr_zero (hE i x hx)
    obtain ⟨v1, v2⟩ := hv i x hx
    have htk : ∀ j, j < i → ∃ w, A[j]? = some w ∧ (A.take i)[j]? = some w := fun j hj => by
      refine ⟨A[j]'(by omega), List.getElem?_eq_getElem (by omega), ?_⟩
      rw [List.getElem?_take, if_pos hj]
      exact List.getElem?_eq_getElem (by omega)
    rw [v2]
    unfold treeF
    simp only [hx]
    by_cases k1 : x.kind = 1
    · rw [if_pos k1, evT, ← nodeVal_1 (V := A.take i) k1, if_pos v1]
    rw [if_neg k1]
    by_cases k2 : x.kind = 2
    · rw [if_pos k2, evT, ← nodeVal_2 (V := A.take i) k2, if_pos v1]
    rw [if_neg k2]
    obtain ⟨l0, l1⟩ := n4 (by omega)
    obtain ⟨w, hw, hw'⟩ := htk x.left.toNat (by omega)
    have eL := ih x.left.toNat (by omega) (by omega)
    rw [hw] at eL
    by_cases k3 : x.kind = 3 ∨ x.kind = 4
    · rw [if_pos k3, evT, eL, Option.bind_some]
      have e := nodeVal_arg (x := x) (y := ⟨x.kind, 0, [], 0, 0⟩) (V := A.take i) (W := [w]) (S := S) rfl k1 k2 (by rw [argA_of (by omega) (show x.left = ((x.left.toNat : Nat) : Int) by omega) hw']; exact (argA_of (i := 0) (x := ⟨x.kind, 0, [], 0, 0⟩) (V := [w]) (show (2 : Int) < x.kind by omega) rfl rfl).symm) (by rw [argB_no (by omega)]; exact (argB_no (x := ⟨x.kind, 0, [], 0, 0⟩) (V := [w]) (show ¬ (4 : Int) < x.kind by omega)).symm)
      rw [← e, if_pos v1]
    · rw [if_neg k3]
      obtain ⟨r0, r1⟩ := n5 (by omega)
      obtain ⟨u, hu, hu'⟩ := htk x.right.toNat (by omega)
      have eR := ih x.right.toNat (by omega) (by omega)
      rw [hu] at eR
      rw [evT, eL, Option.bind_some, eR, Option.bind_some]
      have e := nodeVal_arg (x := x) (y := ⟨x.kind, 0, [], 0, 1⟩) (V := A.take i) (W := [w, u]) (S := S) rfl k1 k2 (by rw [argA_of (by omega) (show x.left = ((x.left.toNat : Nat) : Int) by omega) hw']; exact (argA_of (i := 0) (x := ⟨x.kind, 0, [], 0, 1⟩) (V := [w, u]) (show (2 : Int) < x.kind by omega) rfl rfl).symm) (by rw [argB_of (by omega) (show x.right = ((x.right.toNat : Nat) : Int) by omega) hu']; exact (argB_of (i := 1) (x := ⟨x.kind, 0, [], 0, 1⟩) (V := [w, u]) (show (4 : Int) < x.kind by omega) rfl rfl).symm)
      rw [← e, if_pos v1]
/-- A tree whose nodes are valid. -/
def trOk : Tr Nd → Prop
  | .atom n => (n.kind = 1 ∨ n.kind = 2) ∧ nodeErr n 0 = 0
  | .un k t => (k = 3 ∨ k = 4) ∧ trOk t
  | .bin k a b => (5 ≤ k ∧ k ≤ 14) ∧ trOk a ∧ trOk b
theorem tree_ok {E : List Nd} (hE : validE E) : ∀ (F i : Nat), trOk (treeF E F i) := by
  have base : trOk (.atom ⟨1, 0, [], 0, 0⟩) := ⟨.inl rfl, by decide +kernel⟩
  intro F
  induction F with
  | zero => exact fun i => base
  | succ F ih =>
    intro i
    unfold treeF
    cases hx : E[i]? with
    | none => exact base
    | some x =>
      obtain ⟨n1, n2, n3, n4, n5⟩ := nodeErr_zero (hE i x hx)
      simp only
      by_cases k1 : x.kind = 1
      · rw [if_pos k1]
        refine ⟨.inl rfl, ?_⟩
        have := n2 k1
        unfold nodeErr
        simp
        omega
      rw [if_neg k1]
      by_cases k2 : x.kind = 2
      · rw [if_pos k2]
        refine ⟨.inr rfl, ?_⟩
        unfold nodeErr
        simp [n3 k2]
      rw [if_neg k2]
      by_cases k3 : x.kind = 3 ∨ x.kind = 4
      · rw [if_pos k3]
        exact ⟨k3, ih _⟩
      · rw [if_neg k3]
        exact ⟨by omega, ih _, ih _⟩
theorem last_at {α : Type} {L : List α} {n : Nat} {w : α} (hn : L.length = n + 1) (h : L.getLast? = some w) : L[n]? = some w := by
  rw [List.getLast?_eq_getElem?, hn] at h
  exact h
theorem post_val {S : List Sy} : ∀ (t : Tr Nd) (out : List Nd) (V : List Lin) (w : Lin), trOk t → evalL S out [] = .inr V → evT S t = some w → ∃ V', evalL S (post t out) [] = .inr V' ∧ V'.getLast? = some w ∧ V <+: V'
  | .atom n, out, V, w, ht, hV, hw => by
    simp only [evT] at hw
    split at hw
    · rename_i hz
      obtain rfl := Option.some.inj hw
      have e : nodeVal n V S = nodeVal n [] S := by
        rcases ht.1 with h | h
        · rw [nodeVal_1 (W := []) h, nodeVal_1 (V := []) (W := []) h]
        · rw [nodeVal_2 (W := []) h, nodeVal_2 (V := []) (W := []) h]
      refine ⟨V ++ [(nodeVal n [] S).1], ?_, by simp, List.prefix_append _ _⟩
      rw [post, evalL_append _ _ _ _ hV, evalL, e, if_neg (by simp [hz]), evalL]
    · simp at hw
  | .un k t, out, V, w, ht, hV, hw => by
    simp only [evT] at hw
    obtain ⟨u, hu, hw⟩ := Option.bind_eq_some_iff.1 hw
    split at hw
    · rename_i hz
      obtain rfl := Option.some.inj hw
      obtain ⟨V1, h1, h2, h3⟩ := post_val t out V u ht.2 hV hu
      have hl := evalL_len _ _ _ h1
      simp only [List.length_nil, Nat.zero_add] at hl
      have hpos : 0 < V1.length := by cases V1 with | nil => simp at h2 | cons => simp
      have hn : V1.length = (V1.length - 1) + 1 := by omega
      have hk := ht.1
      have e := nodeVal_arg (x := ⟨k, 0, [], ((post t out).length : Int) - 1, 0⟩) (y := ⟨k, 0, [], 0, 0⟩) (V := V1) (W := [u]) (S := S) rfl (by simp only; omega) (by simp only; omega)
        (by rw [argA_of (i := V1.length - 1) (by simp only; omega) (by simp only; omega) (last_at hn h2)]; exact (argA_of (i := 0) (by simp only; omega) rfl rfl).symm) (by rw [argB_no (by simp only; omega)]; exact (argB_no (by simp only; omega)).symm)
      refine ⟨V1 ++ [(nodeVal ⟨k, 0, [], 0, 0⟩ [u] S).1], ?_, by simp, h3.trans (List.prefix_append _ _)⟩
      rw [post, evalL_append _ _ _ _ h1, evalL, e, if_neg (by simp [hz]), evalL]
    · simp at hw
  | .bin k a b, out, V, w, ht, hV, hw => by
    simp only [evT] at hw
    obtain ⟨u, hu, hw⟩ := Option.bind_eq_some_iff.1 hw
    obtain ⟨u', hu', hw⟩ := Option.bind_eq_some_iff.1 hw
    split at hw
    · rename_i hz
      obtain rfl := Option.some.inj hw
      obtain ⟨V1, h1, h2, h3⟩ := post_val a out V u ht.2.1 hV hu
      obtain ⟨V2, j1, j2, j3⟩ := post_val b (post a out) V1 u' ht.2.2 h1 hu'
      have hl := evalL_len _ _ _ h1
      have jl := evalL_len _ _ _ j1
      simp only [List.length_nil, Nat.zero_add] at hl jl
      have hpos : 0 < V1.length := by cases V1 with | nil => simp at h2 | cons => simp
      have jpos : 0 < V2.length := by cases V2 with | nil => simp at j2 | cons => simp
      have hn : V1.length = (V1.length - 1) + 1 := by omega
      have jn : V2.length = (V2.length - 1) + 1 := by omega
      have hV1 : V2[V1.length - 1]? = some u := by
        obtain ⟨r, rfl⟩ := j3
        rw [List.getElem?_append_left (by omega)]
        exact last_at hn h2
      have hk := ht.1
      have e := nodeVal_arg (x := ⟨k, 0, [], ((post a out).length : Int) - 1, ((post b (post a out)).length : Int) - 1⟩) (y := ⟨k, 0, [], 0, 1⟩) (V := V2) (W := [u, u']) (S := S) rfl (by simp only; omega) (by simp only; omega)
        (by rw [argA_of (i := V1.length - 1) (by simp only; omega) (by simp only; omega) hV1]; exact (argA_of (i := 0) (by simp only; omega) rfl rfl).symm) (by rw [argB_of (i := V2.length - 1) (by simp only; omega) (by simp only; omega) (last_at jn j2)]; exact (argB_of (i := 1) (by simp only; omega) rfl rfl).symm)
      refine ⟨V2 ++ [(nodeVal ⟨k, 0, [], 0, 1⟩ [u, u'] S).1], ?_, by simp, (h3.trans j3).trans (List.prefix_append _ _)⟩
      rw [post, evalL_append _ _ _ _ j1, evalL, e, if_neg (by simp [hz]), evalL]
    · simp at hw
theorem post_valid : ∀ (t : Tr Nd) (out : List Nd), trOk t → validE out → validE (post t out)
  | .atom n, out, ht, ho => by
    intro j x hj
    rw [post] at hj
    by_cases hl : j < out.length
    · rw [List.getElem?_append_left hl] at hj
      exact ho j x hj
    · rw [List.getElem?_append_right (by omega)] at hj
      obtain ⟨hi, he⟩ := List.getElem?_eq_some_iff.1 hj
      simp only [List.length_cons, List.length_nil] at hi
      have hz : j - out.length = 0 := by omega
      simp only [hz, List.getElem_cons_zero] at he
      subst he
      have hk := ht.1
      obtain ⟨n1, n2, n3, n4, n5⟩ := nodeErr_zero ht.2
      unfold nodeErr
      rw [if_neg (by omega)]
      rcases hk with hk | hk
      · have := n2 hk
        rw [if_neg (by omega), if_neg (by omega), if_neg (by omega)]
      · rw [if_neg (by omega), if_neg (by rw [n3 hk]; simp), if_neg (by omega)]
  | .un k t, out, ht, ho => by
    have ih := post_valid t out ht.2 ho
    have hk := ht.1
    have hp := post_len t out
    have h1 := t.pos
    intro j x hj
    rw [post] at hj
    by_cases hl : j < (post t out).length
    · rw [List.getElem?_append_left hl] at hj
      exact ih j x hj
    · rw [List.getElem?_append_right (by omega)] at hj
      obtain ⟨hi, he⟩ := List.getElem?_eq_some_iff.1 hj
      simp only [List.length_cons, List.length_nil] at hi
      have hz : j - (post t out).length = 0 := by omega
      simp only [hz, List.getElem_cons_zero] at he
      subst he
      unfold nodeErr
      simp only
      rw [if_neg (by omega), if_neg (by omega), if_neg (by omega), if_neg (by omega)]
  | .bin k a b, out, ht, ho => by
    have ih := post_valid b (post a out) ht.2.2 (post_valid a out ht.2.1 ho)
    have hk := ht.1
    have hp := post_len a out
    have hp2 := post_len b (post a out)
    have h1 := a.pos
    have h2 := b.pos
    intro j x hj
    rw [post] at hj
    by_cases hl : j < (post b (post a out)).length
    · rw [List.getElem?_append_left hl] at hj
      exact ih j x hj
    · rw [List.getElem?_append_right (by omega)] at hj
      obtain ⟨hi, he⟩ := List.getElem?_eq_some_iff.1 hj
      simp only [List.length_cons, List.length_nil] at hi
      have hz : j - (post b (post a out)).length = 0 := by omega
      simp only [hz, List.getElem_cons_zero] at he
      subst he
      unfold nodeErr
      simp only
      rw [if_neg (by omega), if_neg (by omega), if_neg (by omega), if_neg (by omega)]
/-- **The tokens, if they are an expression again, have the value.** -/
theorem trip_law {E : List Nd} {S : List Sy} {t : Tr Nd} (h : (valueOf E S).2.1 = 0) (hp : parseOf (toksF E E.length (E.length - 1)) = some t) : valueOf (post t []) S = valueOf E S := by
  obtain ⟨k1, k2, k3, k4, k5, hS, A, w, e1, e2, e3, e4⟩ := valueOf_ok h
  have hE : validE E := (exprFault_zero (by rw [k1])).2.2.2
  obtain ⟨hn, h60⟩ := (parse_nodes _ _).1 hp
  obtain rfl := nd_clo (toks_clo hE E.length (E.length - 1) (by omega) (by omega)) hn
  have hA := evalL_len E [] A e1
  simp only [List.length_nil, Nat.zero_add] at hA
  have hw : evT S (treeF E E.length (E.length - 1)) = some w := by
    rw [tree_val hE e1 _ _ (by omega) (by omega), ← hA, ← List.getLast?_eq_getElem?]
    exact e2
  have ht := tree_ok hE E.length (E.length - 1)
  generalize treeF E E.length (E.length - 1) = t at *
  obtain ⟨V', v1, v2, _⟩ := post_val t [] [] w ht rfl hw
  have hl := post_len t []
  have hpos := t.pos
  simp only [List.length_nil, Nat.zero_add] at hl
  have hx : exprFault (post t []) = (0, 0) := by
    rw [exprFault, if_neg (by omega)]
    exact firstE_all _ 0 fun j x hj => by
      rw [Nat.zero_add]
      exact post_valid t [] ht (fun j x hj => by simp at hj) j x hj
  rw [valueOf, valFault, hx, if_pos rfl, k2, if_neg (by simp), v1, e4]
  simp only [v2, Option.getD_some]
end Go.Proofs.YtkgdkommahgakaaDoor.Abs

/- The law function ExprSubstitutes (f5). -/
namespace Go.Proofs.YtkgdkommahgakaaDoor.Abs
open Go Go.RowKit Gram
set_option linter.unusedVariables false
set_option linter.unusedSimpArgs false
set_option maxRecDepth 100000

theorem lsn {σ l : Heap} {n : Nat} {b : Option Blk} : look (σ.set n b ++ l) σ.length = look l 0 := by
  have := look_app_new (σ := σ.set n b) (l := l)
  rwa [List.length_set] at this
theorem lsna {σ l : Heap} {n i : Nat} {b : Option Blk} : look (σ.set n b ++ l) (σ.length + i) = look l i := by
  have := look_app_add (σ := σ.set n b) (l := l) (i := i)
  rwa [List.length_set] at this
attribute [go_sem] lsn lsna List.set_set
theorem valueOf_bad {E : List Nd} {S : List Sy} (h : (valueOf E S).2.1 ≠ 0) : (valueOf E S).1 = Lin.zero := by
  unfold valueOf at h ⊢
  split
  · rfl
  · rename_i h1
    rw [if_neg h1] at h
    split
    · rfl
    · rename_i V hV
      rw [hV] at h
      exact absurd rfl h
set_option maxHeartbeats 2000000 in
theorem f5_ok (E : List Nd) (name : List UInt8) (m : Int) (n c sz : Nat) (σ : Heap) (hl : look σ n = some ⟨E.flatMap Nd.cells, false, sz⟩) (hG : GL σ) (ht : ∀ x ∈ E, x.name.length ≤ 140737488351232) (hz : E.length ≤ 140737488351232) (hn : name.length ≤ 140737488351232) :
    CW Tryd.prog XL 5 [.slice (some ⟨n, 0, none⟩) E.length c, .string (str name), .int .i64 m] σ fun v σ' => v = .bool true ∧ σ <+: σ' := by
  refine cw_in Tryd.func5 rfl Tryd.ntmps5 (rs := [.tmp 6]) rfl (by kernel_rfl) (by exact Nat.le_of_ble_eq_true rfl) ?_
  simp only [go_sem, ↓reduceIte, Nat.reduceEqDiff, Nat.reduceAdd, Nat.reduceMul, Nat.reduceLT, Nat.reduceLeDiff, Int.reduceLT, Int.reduceLE, Int.reduceNeg, Int.reduceAdd, Int.reduceSub, Int.reduceMul, Int.reduceToNat, Int.reduceEq, Int.reduceNe, Int.cast_ofNat_Int, Int.natCast_one, Int.natCast_zero, Int.natCast_add, reduceCtorEq]
  refine (f17_ok σ hG).mono ?_
  rintro _ ρ0 ⟨rfl, hp0⟩
  simp only [go_sem, ↓reduceIte, Nat.reduceEqDiff, Nat.reduceAdd, Nat.reduceMul, Nat.reduceLT, Nat.reduceLeDiff, Int.reduceLT, Int.reduceLE, Int.reduceNeg, Int.reduceAdd, Int.reduceSub, Int.reduceMul, Int.reduceToNat, Int.reduceEq, Int.reduceNe, Int.cast_ofNat_Int, Int.natCast_one, Int.natCast_zero, Int.natCast_add, reduceCtorEq]
  refine (f24_ok XL E [] n c (.slice none 0 0) false sz ρ0 (look_prefix hp0 hl) (.inl ⟨rfl, rfl⟩) ht (by simp) hz (by simp) E.length rfl).mono ?_
  rintro _ ρ1 ⟨rfl, hp1⟩
  simp only [go_sem, ↓reduceIte, Nat.reduceEqDiff, Nat.reduceAdd, Nat.reduceMul, Nat.reduceLT, Nat.reduceLeDiff, Int.reduceLT, Int.reduceLE, Int.reduceNeg, Int.reduceAdd, Int.reduceSub, Int.reduceMul, Int.reduceToNat, Int.reduceEq, Int.reduceNe, Int.cast_ofNat_Int, Int.natCast_one, Int.natCast_zero, Int.natCast_add, reduceCtorEq, faultV, Lin.cells]
  have hS : ∀ x ∈ [(⟨name, ⟨[], [], m⟩⟩ : Sy)], x.few := fun x hx => by
    rw [List.mem_singleton.1 hx]
    exact ⟨hn, by simp, by simp⟩
  refine (f24_ok XL E [⟨name, ⟨[], [], m⟩⟩] n c (.slice (some ⟨ρ1.length + 2, 0, none⟩) 1 1) false sz _ (look_prefix ((hp0.trans hp1).trans (List.prefix_append _ _)) hl) (.inr ⟨ρ1.length + 2, 1, true, 4, rfl, ?_⟩) ht hS hz (by simp) E.length rfl).mono ?_
  · rw [look_app_add]
    rfl
  rintro _ ρ2 ⟨rfl, hp2⟩
  have h7 := look_prefix hp2 (show look _ ρ1.length = some _ by rw [look_app_new, look_zero])
  have h8 := look_prefix hp2 (show look _ (ρ1.length + 1) = some _ by rw [look_app_add]; rfl)
  have law := @subs_law E name m
  have bad := @valueOf_bad E []
  have hpp : σ <+: ρ2 := ((hp0.trans hp1).trans (List.prefix_append _ _)).trans hp2
  have hq : σ.length ≤ ρ1.length := (hp0.trans hp1).length_le
  clear hp2 hp1 hp0
  generalize valueOf E [] = r1 at *
  generalize valueOf E [⟨name, ⟨[], [], m⟩⟩] = r2 at *
  obtain ⟨a, fa, fb⟩ := r1
  obtain ⟨w, ga, gb⟩ := r2
  simp only at law bad h7 h8
  generalize ρ1.length = p7 at *
  have l7 := look_lt h7
  have l8 := look_lt h8
  by_cases h1 : fa = 0
  case neg =>
    have hz := bad h1
    subst hz
    simp only [go_sem, ↓reduceIte, Nat.reduceEqDiff, Nat.reduceAdd, Nat.reduceMul, Nat.reduceLT, Nat.reduceLeDiff, Int.reduceLT, Int.reduceLE, Int.reduceNeg, Int.reduceAdd, Int.reduceSub, Int.reduceMul, Int.reduceToNat, Int.reduceEq, Int.reduceNe, Int.cast_ofNat_Int, Int.natCast_one, Int.natCast_zero, Int.natCast_add, reduceCtorEq, faultV, Lin.cells, Lin.zero, look_app_lt l7, look_app_lt l8, h7, h8, eq_false h1]
    exact hpp.trans (List.prefix_append _ _)
  by_cases h2 : ga = 0
  case neg =>
    simp only [go_sem, ↓reduceIte, Nat.reduceEqDiff, Nat.reduceAdd, Nat.reduceMul, Nat.reduceLT, Nat.reduceLeDiff, Int.reduceLT, Int.reduceLE, Int.reduceNeg, Int.reduceAdd, Int.reduceSub, Int.reduceMul, Int.reduceToNat, Int.reduceEq, Int.reduceNe, Int.cast_ofNat_Int, Int.natCast_one, Int.natCast_zero, Int.natCast_add, reduceCtorEq, faultV, Lin.cells, Lin.zero, look_app_lt l7, look_app_lt l8, h7, h8, eq_true h1, eq_false h2]
    exact hpp.trans (List.prefix_append _ _)
  obtain ⟨rfl, g1, g2, g3, g4⟩ := law h1 h2
  obtain ⟨_, _, b1, b2⟩ := g2
  have hw1 : IntKind.i64.wrap (a.num + m) = a.num + m := wrap64 (by omega)
  have hw2 : IntKind.i64.wrap (a.num - m) = a.num - m := wrap64 (by omega)
  have e1 : a.num + m * 1 = a.num + m := by omega
  have e2 : a.num + m * -1 = a.num - m := by omega
  have e3 : a.num + m * 0 = a.num := by omega
  by_cases k1 : a.sym = name
  · have k2 : ¬ a.minus = name := fun h => g3 (by rw [← k1]; exact g1 (by rw [k1, h]))
    simp only [go_sem, ↓reduceIte, Nat.reduceEqDiff, Nat.reduceAdd, Nat.reduceMul, Nat.reduceLT, Nat.reduceLeDiff, Int.reduceLT, Int.reduceLE, Int.reduceNeg, Int.reduceAdd, Int.reduceSub, Int.reduceMul, Int.reduceToNat, Int.reduceEq, Int.reduceNe, Int.cast_ofNat_Int, Int.natCast_one, Int.natCast_zero, Int.natCast_add, reduceCtorEq, faultV, Lin.cells, Lin.zero, look_app_lt l7, look_app_lt l8, set_app_lt l7, lsa l7 l7, h7, h8, eq_true h1, eq_true h2, eq_true k1, eq_false k2, putN, coef, one, hw1, hw2, look_set l7, ssa l7, List.set_set, e1, e2, e3]
    exact ((prefix_set hpp hq).trans (List.prefix_append _ _))
  · by_cases k2 : a.minus = name
    · simp only [go_sem, ↓reduceIte, Nat.reduceEqDiff, Nat.reduceAdd, Nat.reduceMul, Nat.reduceLT, Nat.reduceLeDiff, Int.reduceLT, Int.reduceLE, Int.reduceNeg, Int.reduceAdd, Int.reduceSub, Int.reduceMul, Int.reduceToNat, Int.reduceEq, Int.reduceNe, Int.cast_ofNat_Int, Int.natCast_one, Int.natCast_zero, Int.natCast_add, reduceCtorEq, faultV, Lin.cells, Lin.zero, look_app_lt l7, look_app_lt l8, set_app_lt l7, lsa l7 l7, h7, h8, eq_true h1, eq_true h2, eq_false k1, eq_true k2, putN, coef, one, hw1, hw2, look_set l7, ssa l7, List.set_set, e1, e2, e3]
      first | exact (prefix_set hpp hq).trans (List.prefix_append _ _) | exact hpp.trans (List.prefix_append _ _)
    · simp only [go_sem, ↓reduceIte, Nat.reduceEqDiff, Nat.reduceAdd, Nat.reduceMul, Nat.reduceLT, Nat.reduceLeDiff, Int.reduceLT, Int.reduceLE, Int.reduceNeg, Int.reduceAdd, Int.reduceSub, Int.reduceMul, Int.reduceToNat, Int.reduceEq, Int.reduceNe, Int.cast_ofNat_Int, Int.natCast_one, Int.natCast_zero, Int.natCast_add, reduceCtorEq, faultV, Lin.cells, Lin.zero, look_app_lt l7, look_app_lt l8, set_app_lt l7, lsa l7 l7, h7, h8, eq_true h1, eq_true h2, eq_false k1, eq_false k2, putN, coef, one, hw1, hw2, look_set l7, ssa l7, List.set_set, e1, e2, e3]
      first | exact (prefix_set hpp hq).trans (List.prefix_append _ _) | exact hpp.trans (List.prefix_append _ _)
end Go.Proofs.YtkgdkommahgakaaDoor.Abs

/- The law function ExprSpaces (f6). -/
namespace Go.Proofs.YtkgdkommahgakaaDoor.Abs
open Go Go.RowKit Gram
set_option linter.unusedVariables false
set_option linter.unusedSimpArgs false
set_option maxRecDepth 100000

theorem f29_ok (X : Ext) (s : List UInt8) (σ : Heap) : CW Tryd.prog X 29 [.string (str s)] σ fun v σ' => v = .agg (tkS s).cells.toArray ∧ σ <+: σ' := by
  refine cw_in Tryd.func29 rfl Tryd.ntmps29 (rs := [.cell 2 31]) rfl (by kernel_rfl) (by exact Nat.le_of_ble_eq_true rfl) ?_
  simp only [go_sem, ↓reduceIte, Nat.reduceEqDiff, Nat.reduceAdd, Nat.reduceMul, Nat.reduceLT, Nat.reduceLeDiff, Int.reduceLT, Int.reduceLE, Int.reduceNeg, Int.reduceAdd, Int.reduceSub, Int.reduceMul, Int.reduceToNat, Int.reduceEq, Int.reduceNe, Int.cast_ofNat_Int, Int.natCast_one, Int.natCast_zero, Int.natCast_add, reduceCtorEq]
  exact ⟨rfl, List.prefix_append _ _⟩
theorem f26_nil (X : Ext) (σ : Heap) : CW Tryd.prog X 26 [.slice none 0 0] σ fun v σ' => v = faultV (2, -1) ∧ σ <+: σ' := by
  refine cw_in Tryd.func26 rfl Tryd.ntmps26 (rs := [.cell 2 26]) rfl (by kernel_rfl) (by exact Nat.le_of_ble_eq_true rfl) ?_
  simp only [go_sem, ↓reduceIte, Nat.reduceEqDiff, Nat.reduceAdd, Nat.reduceMul, Nat.reduceLT, Nat.reduceLeDiff, Int.reduceLT, Int.reduceLE, Int.reduceNeg, Int.reduceAdd, Int.reduceSub, Int.reduceMul, Int.reduceToNat, Int.reduceEq, Int.reduceNe, Int.cast_ofNat_Int, Int.natCast_one, Int.natCast_zero, Int.natCast_add, reduceCtorEq]
  exact ⟨rfl, List.prefix_append _ _⟩
theorem f24_nil (X : Ext) (sv : Value) (σ : Heap) : CW Tryd.prog X 24 [.slice none 0 0, sv] σ fun v σ' => v = .tuple #[.agg Lin.zero.cells.toArray, faultV (2, -1)] ∧ σ <+: σ' := by
  refine cw_in Tryd.func24 rfl Tryd.ntmps24 (rs := [.cell 4 40, .cell 5 26]) rfl (by kernel_rfl) (by exact Nat.le_of_ble_eq_true rfl) ?_
  simp only [go_sem, ↓reduceIte, Nat.reduceEqDiff, Nat.reduceAdd, Nat.reduceMul, Nat.reduceLT, Nat.reduceLeDiff, Int.reduceLT, Int.reduceLE, Int.reduceNeg, Int.reduceAdd, Int.reduceSub, Int.reduceMul, Int.reduceToNat, Int.reduceEq, Int.reduceNe, Int.cast_ofNat_Int, Int.natCast_one, Int.natCast_zero, Int.natCast_add, reduceCtorEq]
  refine (f26_nil X _).mono ?_
  rintro _ _ ⟨rfl, τ, rfl⟩
  simp only [go_sem, ↓reduceIte, Nat.reduceEqDiff, Nat.reduceAdd, Nat.reduceMul, Nat.reduceLT, Nat.reduceLeDiff, Int.reduceLT, Int.reduceLE, Int.reduceNeg, Int.reduceAdd, Int.reduceSub, Int.reduceMul, Int.reduceToNat, Int.reduceEq, Int.reduceNe, Int.cast_ofNat_Int, Int.natCast_one, Int.natCast_zero, Int.natCast_add, reduceCtorEq, faultV]
  refine And.intro (quiet_late (by kernel_rfl) [6] [4, 5] (by kernel_rfl) (by kernel_rfl) (by simp [putT, ptrOf])) ?_
  exact ⟨rfl, List.prefix_append _ _⟩
theorem exprFault_nil : exprFault [] = (2, -1) := rfl
theorem valueOf_nil (S : List Sy) : valueOf [] S = (Lin.zero, (2, -1)) := rfl
/-- Value, of nodes that may be none. -/
theorem f24_nb (X : Ext) (E : List Nd) (S : List Sy) (ev sv : Value) (σ : Heap) (hl : NB σ E ev) (hm : SB σ S sv) (ht : ∀ x ∈ E, x.name.length ≤ 140737488351232) (hts : ∀ x ∈ S, x.few) (hz : E.length ≤ 140737488351232) (hzs : S.length ≤ 140737488351232) :
    CW Tryd.prog X 24 [ev, sv] σ fun v σ' => v = .tuple #[.agg (valueOf E S).1.cells.toArray, faultV (valueOf E S).2] ∧ σ <+: σ' := by
  rcases hl with ⟨rfl, rfl⟩ | ⟨n, c, ow, sz, rfl, hl⟩
  · rw [valueOf_nil]
    exact f24_nil X sv σ
  · exact f24_ok X E S n c sv ow sz σ hl hm ht hts hz hzs E.length rfl
/-- Names in an expression that was read. -/
def trNames (k : Nat) : Tr Nd → Prop
  | .atom n => n.name.length ≤ k
  | .un _ t => trNames k t
  | .bin _ a b => trNames k a ∧ trNames k b
theorem post_names {k : Nat} : ∀ (t : Tr Nd) (out : List Nd), trNames k t → (∀ x ∈ out, x.name.length ≤ k) → ∀ x ∈ post t out, x.name.length ≤ k
  | .atom n, out, ht, ho, x, hx => by
    rw [post] at hx
    rcases List.mem_append.1 hx with hx | hx
    · exact ho x hx
    · rw [List.mem_singleton.1 hx]; exact ht
  | .un q t, out, ht, ho, x, hx => by
    rw [post] at hx
    rcases List.mem_append.1 hx with hx | hx
    · exact post_names t out ht ho x hx
    · rw [List.mem_singleton.1 hx]; simp
  | .bin q a b, out, ht, ho, x, hx => by
    rw [post] at hx
    rcases List.mem_append.1 hx with hx | hx
    · exact post_names b _ ht.2 (post_names a out ht.1 ho) x hx
    · rw [List.mem_singleton.1 hx]; simp
theorem der_names {k : Nat} {j d : Nat} {l : List (Cl Nd)} {t : Tr Nd} (h : Der j d l t) : (∀ n, Cl.atom n ∈ l → n.name.length ≤ k) → trNames k t := by
  induction h with
  | atom d a => exact fun h => h a (by simp)
  | un d c q l t hc hd h ih => exact fun h => ih fun n hn => h n (by simp [hn])
  | par d l t hd h ih => exact fun h => ih fun n hn => h n (by simp [hn])
  | up q d l t hk h ih => exact ih
  | bin q d a b c ta tb hk hc ha hb iha ihb => exact fun h => ⟨iha fun n hn => h n (by simp [hn]), ihb fun n hn => h n (by simp [hn])⟩
theorem parse_names {k : Nat} {L : List Tk} {t : Tr Nd} (h : parseOf L = some t) (hL : ∀ x ∈ L, x.text.length ≤ k) : ∀ x ∈ post t [], x.name.length ≤ k := by
  refine post_names t [] (der_names (nd_sound _ _ _ _ (toks_ok L) ((parse_nodes L t).1 h).1).1 fun n hn => ?_) (by simp)
  obtain ⟨x, hx, he⟩ := List.mem_map.1 hn
  have := hL x hx
  unfold cls at he
  repeat' split at he
  all_goals first | (simp only [Cl.atom.injEq] at he; subst he; simp; done) | (simp only [Cl.atom.injEq] at he; subst he; exact this) | (simp at he; done)
theorem Tk.valid_text {x : Tk} {k : Nat} (h : x.text.length ≤ k) : x.text.length ≤ k := h
set_option maxHeartbeats 2000000 in
theorem f6_ok (L : List Tk) (n c : Nat) (sz : Nat) (σ : Heap) (hl : look σ n = some ⟨L.flatMap Tk.cells, false, sz⟩) (hG : GL σ) (hz : L.length * 40 ≤ 140737488351232) (ht : ∀ x ∈ L, x.text.length ≤ 140737488351232) :
    CW Tryd.prog XL 6 [.slice (some ⟨n, 0, none⟩) L.length c] σ fun v σ' => v = .bool true ∧ σ <+: σ' := by
  refine cw_in Tryd.func6 rfl Tryd.ntmps6 (rs := [.tmp 2]) rfl (by kernel_rfl) (by exact Nat.le_of_ble_eq_true rfl) ?_
  have hn := look_lt hl
  have htl := Tk.len L
  simp only [go_sem, ↓reduceIte, Nat.reduceEqDiff, Nat.reduceAdd, Nat.reduceMul, Nat.reduceLT, Nat.reduceLeDiff, Int.reduceLT, Int.reduceLE, Int.reduceNeg, Int.reduceAdd, Int.reduceSub, Int.reduceMul, Int.reduceToNat, Int.reduceEq, Int.reduceNe, Int.cast_ofNat_Int, Int.natCast_one, Int.natCast_zero, Int.natCast_add, reduceCtorEq]
  refine (f17_ok σ hG).mono ?_
  rintro _ ρ0 ⟨rfl, hp0⟩
  simp only [go_sem, ↓reduceIte, Nat.reduceEqDiff, Nat.reduceAdd, Nat.reduceMul, Nat.reduceLT, Nat.reduceLeDiff, Int.reduceLT, Int.reduceLE, Int.reduceNeg, Int.reduceAdd, Int.reduceSub, Int.reduceMul, Int.reduceToNat, Int.reduceEq, Int.reduceNe, Int.cast_ofNat_Int, Int.natCast_one, Int.natCast_zero, Int.natCast_add, reduceCtorEq]
  refine (f29_ok XL [40] _).mono ?_
  rintro _ ρ1 ⟨rfl, hp1⟩
  have hl1 := look_prefix (hp0.trans hp1) hl
  have hn1 := look_lt hl1
  have hsrc : ∀ l : Heap, asrc (ρ1 ++ l) 4 (.slice (some ⟨n, 0, none⟩) L.length c) = some (L.length, L.flatMap Tk.cells) := fun l => by
    rw [src_ptr (b := ⟨L.flatMap Tk.cells, false, sz⟩) ((look_app_lt hn1).trans hl1) (by rw [htl]; omega), List.drop_zero, List.take_of_length_le (by rw [htl]; omega)]
  simp only [go_sem, ↓reduceIte, Nat.reduceEqDiff, Nat.reduceAdd, Nat.reduceMul, Nat.reduceLT, Nat.reduceLeDiff, Int.reduceLT, Int.reduceLE, Int.reduceNeg, Int.reduceAdd, Int.reduceSub, Int.reduceMul, Int.reduceToNat, Int.reduceEq, Int.reduceNe, Int.cast_ofNat_Int, Int.natCast_one, Int.natCast_zero, Int.natCast_add, reduceCtorEq, Tk.cells, tkS, hsrc, eq_true (show (1 + L.length + 410) * 40 ≤ 225179981368524 by omega)]
  refine (f29_ok XL [41] _).mono ?_
  rintro _ ρ2 ⟨rfl, hp2⟩
  have ha := look_prefix hp2 (show look _ (ρ1.length + 2) = some _ by rw [look_app_add]; rfl)
  have hal := look_lt ha
  have hpp := ((hp0.trans hp1).trans (List.prefix_append _ _)).trans hp2
  have hle := (hp0.trans hp1).length_le
  clear hp2
  simp only [go_sem, ↓reduceIte, Nat.reduceEqDiff, Nat.reduceAdd, Nat.reduceMul, Nat.reduceLT, Nat.reduceLeDiff, Int.reduceLT, Int.reduceLE, Int.reduceNeg, Int.reduceAdd, Int.reduceSub, Int.reduceMul, Int.reduceToNat, Int.reduceEq, Int.reduceNe, Int.cast_ofNat_Int, Int.natCast_one, Int.natCast_zero, Int.natCast_add, reduceCtorEq, Tk.cells, tkS, look_app_lt hal, ha, htl, show L.length * 4 + 1 + 1 + 1 + 1 = (1 + L.length) * 4 by omega, eq_true (show (1 + L.length + 1 + 410) * 40 ≤ 225179981368524 by omega), eq_false (show ¬ 1 + L.length = 0 by omega)]
  have hprem : σ.length ≤ ρ1.length + 2 := by omega
  have hF : look (List.set (ρ2 ++ [some (⟨[.int .i64 3, .string (str [41]), .int .i64 0, .int .i64 0], true, 4⟩ : Blk)]) (ρ1.length + 2) none ++ [some (⟨.int .i64 3 :: .string (str [40]) :: .int .i64 0 :: .int .i64 0 :: (L.flatMap Tk.cells ++ [.int .i64 3, .string (str [41]), .int .i64 0, .int .i64 0]), true, 4⟩ : Blk)]) (ρ2.length + 1) = some ⟨(tkS [40] :: (L ++ [tkS [41]])).flatMap Tk.cells, true, 4⟩ := by
    have := @lsn (ρ2 ++ [some (⟨[.int .i64 3, .string (str [41]), .int .i64 0, .int .i64 0], true, 4⟩ : Blk)]) [some (⟨.int .i64 3 :: .string (str [40]) :: .int .i64 0 :: .int .i64 0 :: (L.flatMap Tk.cells ++ [.int .i64 3, .string (str [41]), .int .i64 0, .int .i64 0]), true, 4⟩ : Blk)] (ρ1.length + 2) none
    rw [List.length_append] at this
    rw [show ρ2.length + 1 = ρ2.length + [some (⟨[.int .i64 3, .string (str [41]), .int .i64 0, .int .i64 0], true, 4⟩ : Blk)].length from rfl, this, look_zero]
    simp [tkS, Tk.cells]
  have hP : σ <+: List.set (ρ2 ++ [some (⟨[.int .i64 3, .string (str [41]), .int .i64 0, .int .i64 0], true, 4⟩ : Blk)]) (ρ1.length + 2) none ++ [some (⟨.int .i64 3 :: .string (str [40]) :: .int .i64 0 :: .int .i64 0 :: (L.flatMap Tk.cells ++ [.int .i64 3, .string (str [41]), .int .i64 0, .int .i64 0]), true, 4⟩ : Blk)] :=
    (prefix_set (hpp.trans (List.prefix_append _ _)) hprem).trans (List.prefix_append _ _)
  generalize List.set (ρ2 ++ [some (⟨[.int .i64 3, .string (str [41]), .int .i64 0, .int .i64 0], true, 4⟩ : Blk)]) (ρ1.length + 2) none ++ [some (⟨.int .i64 3 :: .string (str [40]) :: .int .i64 0 :: .int .i64 0 :: (L.flatMap Tk.cells ++ [.int .i64 3, .string (str [41]), .int .i64 0, .int .i64 0]), true, 4⟩ : Blk)] = ρ3 at *
  generalize ρ2.length + 1 = q at *
  obtain ⟨LL, hLL⟩ : ∃ LL, LL = tkS [40] :: (L ++ [tkS [41]]) := ⟨_, rfl⟩
  rw [← hLL] at hF
  clear hpp ha hal hsrc hl1 hn1 hp1 hp0 hle hprem
  refine (f18_ok L n c false sz ρ3 (look_prefix hP hl) (hG.mono hP) (by omega) ht).mono ?_
  rintro v ρ4 ⟨hPa, hp4⟩
  obtain ⟨A, a, cd, ix, rfl, hA, hbadA, hgoodA, hnoneA⟩ := parseV_split hPa
  simp only [go_sem, ↓reduceIte, Nat.reduceEqDiff, Nat.reduceAdd, Nat.reduceMul, Nat.reduceLT, Nat.reduceLeDiff, Int.reduceLT, Int.reduceLE, Int.reduceNeg, Int.reduceAdd, Int.reduceSub, Int.reduceMul, Int.reduceToNat, Int.reduceEq, Int.reduceNe, Int.cast_ofNat_Int, Int.natCast_one, Int.natCast_zero, Int.natCast_add, reduceCtorEq, faultV]
  have hlen : LL.length = 1 + L.length + 1 := by rw [hLL]; simp; omega
  have htx : ∀ x ∈ LL, x.text.length ≤ 140737488351232 := fun x hx => by
    rw [hLL] at hx
    rcases List.mem_cons.1 hx with rfl | hx
    · simp [tkS]
    · rcases List.mem_append.1 hx with hx | hx
      · exact ht x hx
      · rw [List.mem_singleton.1 hx]; simp [tkS]
  have F := f18_ok LL q (1 + L.length + 1 + 1) true 4 _ (look_prefix (hp4.trans (List.prefix_append ρ4 [some (⟨[.int .i64 cd, .int .i64 ix], true, 0⟩ : Blk)])) hF) (hG.mono ((hP.trans hp4).trans (List.prefix_append _ _))) (by rw [hlen]; omega) htx
  rw [hlen] at F
  refine F.mono ?_
  clear F
  rintro v ρ5 ⟨hPb, hp5⟩
  obtain ⟨B, b, cd2, ix2, rfl, hB, hbadB, hgoodB, hnoneB⟩ := parseV_split hPb
  have hfa := look_prefix hp5 (show look _ ρ4.length = some _ by rw [look_app_new, look_zero])
  have hA5 := hA.mono ((List.prefix_append _ _).trans hp5)
  have hP5 := ((hP.trans hp4).trans (List.prefix_append _ _)).trans hp5
  have hF5 := look_prefix ((hp4.trans (List.prefix_append _ _)).trans hp5) hF
  have hq5 := look_lt hF5
  have hal5 := look_lt hfa
  have hal := hA.len
  clear hp5 hp4 hPa hPb hF hP
  generalize ρ4.length = fa at *
  by_cases c1 : cd = 0
  case neg =>
    have hAn : A = [] := by
      cases hb : badTok L with
      | some j => exact (hbadA j hb).1
      | none =>
        cases hpp : parseOf L with
        | none => exact (hnoneA hb hpp).1
        | some t => exact absurd (hgoodA hb t hpp).2 c1
    subst hAn
    simp only [go_sem, ↓reduceIte, Nat.reduceEqDiff, Nat.reduceAdd, Nat.reduceMul, Nat.reduceLT, Nat.reduceLeDiff, Int.reduceLT, Int.reduceLE, Int.reduceNeg, Int.reduceAdd, Int.reduceSub, Int.reduceMul, Int.reduceToNat, Int.reduceEq, Int.reduceNe, Int.cast_ofNat_Int, Int.natCast_one, Int.natCast_zero, Int.natCast_add, reduceCtorEq, faultV, look_app_lt hal5, hfa, eq_false c1, hal, List.length_nil, Int.natCast_zero]
    exact hP5.trans (List.prefix_append _ _)
  by_cases c2 : cd2 = 0
  case neg =>
    simp only [go_sem, ↓reduceIte, Nat.reduceEqDiff, Nat.reduceAdd, Nat.reduceMul, Nat.reduceLT, Nat.reduceLeDiff, Int.reduceLT, Int.reduceLE, Int.reduceNeg, Int.reduceAdd, Int.reduceSub, Int.reduceMul, Int.reduceToNat, Int.reduceEq, Int.reduceNe, Int.cast_ofNat_Int, Int.natCast_one, Int.natCast_zero, Int.natCast_add, reduceCtorEq, faultV, look_app_lt hal5, hfa, eq_true c1, eq_false c2]
    exact hP5.trans (List.prefix_append _ _)
  simp only [go_sem, ↓reduceIte, Nat.reduceEqDiff, Nat.reduceAdd, Nat.reduceMul, Nat.reduceLT, Nat.reduceLeDiff, Int.reduceLT, Int.reduceLE, Int.reduceNeg, Int.reduceAdd, Int.reduceSub, Int.reduceMul, Int.reduceToNat, Int.reduceEq, Int.reduceNe, Int.cast_ofNat_Int, Int.natCast_one, Int.natCast_zero, Int.natCast_add, reduceCtorEq, faultV, look_app_lt hal5, hfa, eq_true c1, eq_true c2]
  refine (f29_ok XL [45] _).mono ?_
  rintro _ ρ6 ⟨rfl, hp6⟩
  simp only [go_sem, ↓reduceIte, Nat.reduceEqDiff, Nat.reduceAdd, Nat.reduceMul, Nat.reduceLT, Nat.reduceLeDiff, Int.reduceLT, Int.reduceLE, Int.reduceNeg, Int.reduceAdd, Int.reduceSub, Int.reduceMul, Int.reduceToNat, Int.reduceEq, Int.reduceNe, Int.cast_ofNat_Int, Int.natCast_one, Int.natCast_zero, Int.natCast_add, reduceCtorEq]
  refine (f29_ok XL [45] _).mono ?_
  rintro _ ρ7 ⟨rfl, hp7⟩
  have hp57 : ρ5 <+: ρ7 := ((List.prefix_append _ _).trans hp6).trans hp7
  have hF7 := look_prefix hp57 hF5
  have hq7 := look_lt hF7
  have hll := Tk.len LL
  have htk : List.take ((1 + L.length + 1) * 4) (LL.flatMap Tk.cells) = LL.flatMap Tk.cells := List.take_of_length_le (by rw [hll, hlen]; omega)
  simp only [go_sem, ↓reduceIte, Nat.reduceEqDiff, Nat.reduceAdd, Nat.reduceMul, Nat.reduceLT, Nat.reduceLeDiff, Int.reduceLT, Int.reduceLE, Int.reduceNeg, Int.reduceAdd, Int.reduceSub, Int.reduceMul, Int.reduceToNat, Int.reduceEq, Int.reduceNe, Int.cast_ofNat_Int, Int.natCast_one, Int.natCast_zero, Int.natCast_add, reduceCtorEq, tkS, Tk.cells, look_app_lt hq7, hF7, hll, hlen, htk, eq_true (show (2 + (1 + L.length + 1) + 410) * 40 ≤ 225179981368524 by omega)]
  have hlen2 : (tkS [45] :: tkS [45] :: LL).length = 2 + (1 + L.length + 1) := by simp; omega
  have htx2 : ∀ x ∈ tkS [45] :: tkS [45] :: LL, x.text.length ≤ 140737488351232 := fun x hx => by
    rcases List.mem_cons.1 hx with rfl | hx
    · simp [tkS]
    · rcases List.mem_cons.1 hx with rfl | hx
      · simp [tkS]
      · exact htx x hx
  have hP7 := hP5.trans hp57
  have hA7 := hA5.mono hp57
  have hB7 := hB.mono hp57
  have hfa7 := look_prefix hp57 hfa
  have F := f18_ok (tkS [45] :: tkS [45] :: LL) (ρ7.length + 1) (2 + (1 + L.length + 1) + 1) true 4 (ρ7 ++ [none, some (⟨.int .i64 3 :: .string (str [45]) :: .int .i64 0 :: .int .i64 0 :: .int .i64 3 :: .string (str [45]) :: .int .i64 0 :: .int .i64 0 :: LL.flatMap Tk.cells, true, 4⟩ : Blk)]) (by rw [look_app_add]; rfl) (hG.mono (hP7.trans (List.prefix_append _ _))) (by rw [hlen2]; omega) htx2
  rw [hlen2] at F
  refine F.mono ?_
  clear F
  rintro v ρ8 ⟨hPc, hp8⟩
  obtain ⟨C, cv, cd3, ix3, rfl, hC, hbadC, hgoodC, hnoneC⟩ := parseV_split hPc
  have hP8 := (hP7.trans (List.prefix_append _ _)).trans hp8
  have hA8 := hA7.mono ((List.prefix_append _ _).trans hp8)
  have hB8 := hB7.mono ((List.prefix_append _ _).trans hp8)
  have hfa8 := look_prefix ((List.prefix_append _ _).trans hp8) hfa7
  clear hp8 hp57 hp7 hp6 hPc
  have tA : badTok L = none ∧ ∃ t, parseOf L = some t ∧ A = post t [] := by
    cases hb : badTok L with
    | some j => have := (hbadA j hb).2.1; omega
    | none =>
      cases hpp : parseOf L with
      | none => exact absurd c1 (hnoneA hb hpp).2.1
      | some t => exact ⟨rfl, t, rfl, (hgoodA hb t hpp).1⟩
  have tB : badTok LL = none ∧ ∃ t, parseOf LL = some t ∧ B = post t [] := by
    cases hb : badTok LL with
    | some j => have := (hbadB j hb).2.1; omega
    | none =>
      cases hpp : parseOf LL with
      | none => exact absurd c2 (hnoneB hb hpp).2.1
      | some t => exact ⟨rfl, t, rfl, (hgoodB hb t hpp).1⟩
  obtain ⟨_, t1, ht1, rfl⟩ := tA
  obtain ⟨_, t2, ht2, rfl⟩ := tB
  have e12 : t2 = t1 := spaces_par ht1 (by rw [← hLL]; exact ht2)
  subst e12
  have nA := parse_names ht1 ht
  have lA : (post t2 []).length ≤ 140737488351232 := by
    have := post_len t2 []
    have h60 := ((parse_nodes L t2).1 ht1).2
    simp at this
    omega
  simp only [go_sem, ↓reduceIte, Nat.reduceEqDiff, Nat.reduceAdd, Nat.reduceMul, Nat.reduceLT, Nat.reduceLeDiff, Int.reduceLT, Int.reduceLE, Int.reduceNeg, Int.reduceAdd, Int.reduceSub, Int.reduceMul, Int.reduceToNat, Int.reduceEq, Int.reduceNe, Int.cast_ofNat_Int, Int.natCast_one, Int.natCast_zero, Int.natCast_add, reduceCtorEq, faultV]
  refine (f24_nb XL (post t2 []) [] a (.slice none 0 0) _ (hA8.mono (List.prefix_append _ _)) (.inl ⟨rfl, rfl⟩) nA (by simp) lA (by simp)).mono ?_
  rintro _ ρ9 ⟨rfl, hp9⟩
  simp only [go_sem, ↓reduceIte, Nat.reduceEqDiff, Nat.reduceAdd, Nat.reduceMul, Nat.reduceLT, Nat.reduceLeDiff, Int.reduceLT, Int.reduceLE, Int.reduceNeg, Int.reduceAdd, Int.reduceSub, Int.reduceMul, Int.reduceToNat, Int.reduceEq, Int.reduceNe, Int.cast_ofNat_Int, Int.natCast_one, Int.natCast_zero, Int.natCast_add, reduceCtorEq, faultV, Lin.cells]
  have nC : (∀ x ∈ C, x.name.length ≤ 140737488351232) ∧ C.length ≤ 140737488351232 := by
    cases hb : badTok (tkS [45] :: tkS [45] :: LL) with
    | some j => obtain ⟨rfl, _⟩ := hbadC j hb; simp
    | none =>
      cases hpp : parseOf (tkS [45] :: tkS [45] :: LL) with
      | none => obtain ⟨rfl, _⟩ := hnoneC hb hpp; simp
      | some t =>
        obtain ⟨rfl, _⟩ := hgoodC hb t hpp
        refine ⟨parse_names hpp htx2, ?_⟩
        have := post_len t []
        have h60 := ((parse_nodes _ t).1 hpp).2
        simp at this
        omega
  refine (f24_nb XL C [] cv (.slice none 0 0) _ (hC.mono (((List.prefix_append _ _).trans hp9).trans (List.prefix_append _ _))) (.inl ⟨rfl, rfl⟩) nC.1 (by simp) nC.2 (by simp)).mono ?_
  rintro _ ρ10 ⟨rfl, hp10⟩
  simp only [go_sem, ↓reduceIte, Nat.reduceEqDiff, Nat.reduceAdd, Nat.reduceMul, Nat.reduceLT, Nat.reduceLeDiff, Int.reduceLT, Int.reduceLE, Int.reduceNeg, Int.reduceAdd, Int.reduceSub, Int.reduceMul, Int.reduceToNat, Int.reduceEq, Int.reduceNe, Int.cast_ofNat_Int, Int.natCast_one, Int.natCast_zero, Int.natCast_add, reduceCtorEq, faultV, Lin.cells]
  refine (f23_ok XL (post t2 []) (post t2 []) a b _ (hA8.mono ?q1) (hB8.mono ?q1) lA lA).mono ?_
  case q1 => exact ((((List.prefix_append _ _).trans hp9).trans (List.prefix_append _ _)).trans hp10).trans (List.prefix_append _ _)
  rintro _ ρ11 ⟨rfl, hp11⟩
  have hp10' := (List.prefix_append _ _).trans hp11
  have hp9' := ((List.prefix_append _ _).trans hp10).trans hp10'
  have hp8' := ((List.prefix_append _ _).trans hp9).trans hp9'
  have h10 := look_prefix (hp9.trans hp9') (show look _ ρ8.length = some _ by rw [look_app_new, look_zero])
  have h11 := look_prefix (hp10.trans hp10') (show look _ ρ9.length = some _ by rw [look_app_new, look_zero])
  have h12 := look_prefix (hp10.trans hp10') (show look _ (ρ9.length + 1) = some _ by rw [look_app_add]; rfl)
  have h13 := look_prefix hp11 (show look _ ρ10.length = some _ by rw [look_app_new, look_zero])
  have h14 := look_prefix hp11 (show look _ (ρ10.length + 1) = some _ by rw [look_app_add]; rfl)
  have hPe := hP8.trans hp8'
  have law : cd3 = 0 → (valueOf (post t2 []) []).2.1 = 0 → valueOf C [] = valueOf (post t2 []) [] := fun h3 hv => by
    cases hb : badTok (tkS [45] :: tkS [45] :: LL) with
    | some j => have := (hbadC j hb).2.1; omega
    | none =>
      cases hpp : parseOf (tkS [45] :: tkS [45] :: LL) with
      | none => exact absurd h3 (hnoneC hb hpp).2.1
      | some t =>
        obtain ⟨rfl, _⟩ := hgoodC hb t hpp
        exact spaces_neg ht1 (by rw [← hLL]; exact hpp) hv
  generalize ρ8.length = p10 at *
  generalize ρ9.length = p11 at *
  generalize ρ10.length = p13 at *
  by_cases c3 : cd3 = 0
  case neg =>
    simp only [go_sem, ↓reduceIte, Nat.reduceEqDiff, Nat.reduceAdd, Nat.reduceMul, Nat.reduceLT, Nat.reduceLeDiff, Int.reduceLT, Int.reduceLE, Int.reduceNeg, Int.reduceAdd, Int.reduceSub, Int.reduceMul, Int.reduceToNat, Int.reduceEq, Int.reduceNe, Int.cast_ofNat_Int, Int.natCast_one, Int.natCast_zero, Int.natCast_add, reduceCtorEq, h10, eq_false c3]
    exact hPe
  by_cases c4 : (valueOf (post t2 []) []).2.1 = 0
  case neg =>
    simp only [go_sem, ↓reduceIte, Nat.reduceEqDiff, Nat.reduceAdd, Nat.reduceMul, Nat.reduceLT, Nat.reduceLeDiff, Int.reduceLT, Int.reduceLE, Int.reduceNeg, Int.reduceAdd, Int.reduceSub, Int.reduceMul, Int.reduceToNat, Int.reduceEq, Int.reduceNe, Int.cast_ofNat_Int, Int.natCast_one, Int.natCast_zero, Int.natCast_add, reduceCtorEq, h10, h12, eq_true c3, eq_false c4]
    exact hPe
  have hv := law c3 c4
  rw [hv] at h13 h14
  simp only [go_sem, ↓reduceIte, Nat.reduceEqDiff, Nat.reduceAdd, Nat.reduceMul, Nat.reduceLT, Nat.reduceLeDiff, Int.reduceLT, Int.reduceLE, Int.reduceNeg, Int.reduceAdd, Int.reduceSub, Int.reduceMul, Int.reduceToNat, Int.reduceEq, Int.reduceNe, Int.cast_ofNat_Int, Int.natCast_one, Int.natCast_zero, Int.natCast_add, reduceCtorEq, h10, h11, h12, h13, h14, eq_true c3, eq_true c4]
  exact hPe
end Go.Proofs.YtkgdkommahgakaaDoor.Abs
