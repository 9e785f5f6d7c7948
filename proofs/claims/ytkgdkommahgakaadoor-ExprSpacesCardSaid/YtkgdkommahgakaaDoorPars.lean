import Derived.Test.YtkgdkommahgakaaDoorTok
import Derived.Test.YtkgdkommahgakaaDoorGram2
namespace Go.Proofs.YtkgdkommahgakaaDoor.Abs
open Go Go.RowKit Gram
set_option linter.unusedVariables false
set_option linter.unusedSimpArgs false
set_option maxRecDepth 100000

/-! ### nodes, and what tokens are to an expression -/
structure Nd where
  kind : Int
  value : Int
  name : List UInt8
  left : Int
  right : Int
deriving DecidableEq
def Nd.cells (x : Nd) : List Value := [.int .i64 x.kind, .int .i64 x.value, .string (str x.name), .int .i64 x.left, .int .i64 x.right]
def lvls : Nat → List (List UInt8)
  | 0 => [[124]]
  | 1 => [[94]]
  | 2 => [[38]]
  | 3 => [[60, 60], [62, 62]]
  | 4 => [[43], [45]]
  | 5 => [[42], [47], [37]]
  | _ => []
def lvlT (t : List UInt8) : Nat := if t = [124] then 1 else if t = [94] then 2 else if t = [38] then 3 else if t = [60, 60] ∨ t = [62, 62] then 4 else if t = [43] ∨ t = [45] then 5 else if t = [42] ∨ t = [47] ∨ t = [37] then 6 else 0
def cls (x : Tk) : Cl Nd :=
  if x.kind = 2 then .atom ⟨1, x.value, [], 0, 0⟩ else if x.kind = 1 then .atom ⟨2, 0, x.text, 0, 0⟩
  else if x.text = [40] then .lp else if x.text = [41] then .rp else if x.text = [126] then .tilde
  else if lvlT x.text = 0 then .other else .bin (lvlT x.text) (5 + idx ops x.text)
def sgn (x : Tk) : List UInt8 := if x.kind = 3 then x.text else []
def post : Tr Nd → List Nd → List Nd
  | .atom n, out => out ++ [n]
  | .un k t, out => post t out ++ [⟨k, 0, [], ((post t out).length : Int) - 1, 0⟩]
  | .bin k a b, out => post b (post a out) ++ [⟨k, 0, [], ((post a out).length : Int) - 1, ((post b (post a out)).length : Int) - 1⟩]
theorem post_len : ∀ (t : Tr Nd) (out : List Nd), (post t out).length = out.length + t.size
  | .atom n, out => by simp [post, Tr.size]
  | .un k t, out => by simp [post, Tr.size, post_len t out]; omega
  | .bin k a b, out => by simp [post, Tr.size, post_len a out, post_len b]; omega
theorem valid_kind {x : Tk} (h : validT x = true) : (x.kind = 1) ∨ (x.kind = 2) ∨ (x.kind = 3 ∧ x.text ∈ signs) := by
  unfold validT at h
  split at h
  · exact .inl (by assumption)
  · split at h
    · exact .inr (.inl (by assumption))
    · split at h
      · rename_i h3
        simp at h
        exact .inr (.inr ⟨h3, h.1⟩)
      · simp at h
theorem lvl_mem : ∀ t ∈ signs, ∀ k, k < 6 → (t ∈ lvls k ↔ lvlT t = k + 1) := by
  intro t ht k hk
  have : ∀ t ∈ signs, ∀ k : Fin 6, (t ∈ lvls k.val ↔ lvlT t = k.val + 1) := by decide
  exact this t ht ⟨k, hk⟩
theorem nil_lvls : ∀ k, ([] : List UInt8) ∉ lvls k
  | 0 => by decide
  | 1 => by decide
  | 2 => by decide
  | 3 => by decide
  | 4 => by decide
  | 5 => by decide
  | n + 6 => by simp [lvls]
theorem cls_lvl {x : Tk} (h : validT x = true) {k : Nat} (hk : k < 6) : sgn x ∈ lvls k ↔ (cls x).lvl = k + 1 := by
  rcases valid_kind h with h1 | h1 | ⟨h1, h2⟩
  · simp [sgn, cls, h1, nil_lvls, Cl.lvl]
  · simp [sgn, cls, h1, nil_lvls, Cl.lvl]
  · have e : sgn x = x.text := by rw [sgn, if_pos h1]
    rw [e, lvl_mem x.text h2 k hk]
    unfold cls
    rw [if_neg (by omega), if_neg (by omega)]
    have p1 : lvlT [40] = 0 := by decide
    have p2 : lvlT [41] = 0 := by decide
    have p3 : lvlT [126] = 0 := by decide
    by_cases q1 : x.text = [40]
    · rw [if_pos q1, q1, p1]; simp [Cl.lvl]
    · rw [if_neg q1]
      by_cases q2 : x.text = [41]
      · rw [if_pos q2, q2, p2]; simp [Cl.lvl]
      · rw [if_neg q2]
        by_cases q3 : x.text = [126]
        · rw [if_pos q3, q3, p3]; simp [Cl.lvl]
        · rw [if_neg q3]
          by_cases q4 : lvlT x.text = 0
          · rw [if_pos q4, q4]; simp [Cl.lvl]
          · rw [if_neg q4]; simp [Cl.lvl]
theorem cls_kind {x : Tk} (h : validT x = true) (hl : 0 < (cls x).lvl) : (cls x).kind = 5 + idx ops (sgn x) := by
  rcases valid_kind h with h1 | h1 | ⟨h1, h2⟩
  · simp [cls, h1, Cl.lvl] at hl
  · simp [cls, h1, Cl.lvl] at hl
  · have e : sgn x = x.text := by rw [sgn, if_pos h1]
    rw [e]
    unfold cls at hl ⊢
    rw [if_neg (by omega), if_neg (by omega)] at hl ⊢
    repeat' split at hl
    all_goals first | (simp [Cl.lvl] at hl; done) | skip
    rename_i q1 q2 q3 q4
    rw [if_neg q1, if_neg q2, if_neg q3, if_neg q4]
    rfl
theorem lvlT_le (t : List UInt8) : lvlT t ≤ 6 := by
  unfold lvlT
  repeat' split
  all_goals omega
theorem cls_ok (x : Tk) : (cls x).ok := by
  have := lvlT_le x.text
  unfold cls
  generalize lvlT x.text = n at *
  repeat' split
  all_goals first | trivial | (simp only [Cl.ok]; omega)

/-! ### the parser's state -/
def gcells (N : Nat → Nat) : List Value := (List.range 6).map fun i => .slice (some ⟨N i, 0, none⟩) (lvls i).length ((lvls i).length + 1)
def GL (σ : Heap) : Prop := ∃ N : Nat → Nat, (∃ sz, look σ 0 = some ⟨gcells N, false, sz⟩) ∧ ∀ i, i < 6 → ∃ ow sz, look σ (N i) = some ⟨(lvls i).map vstr, ow, sz⟩
theorem GL.mono {σ σ' : Heap} (h : GL σ) (hp : σ <+: σ') : GL σ' := by
  obtain ⟨N, ⟨sz, h1⟩, h2⟩ := h
  exact ⟨N, ⟨sz, look_prefix hp h1⟩, fun i hi => by obtain ⟨ow, sz, h3⟩ := h2 i hi; exact ⟨ow, sz, look_prefix hp h3⟩⟩
def NV (b : Nat) (σ : Heap) (nodes : List Nd) (v : Value) : Prop :=
  (nodes = [] ∧ v = .slice none 0 0) ∨ ∃ q c, v = .slice (some ⟨q, 0, none⟩) nodes.length c ∧ b ≤ q ∧ 0 < nodes.length ∧ look σ q = some ⟨nodes.flatMap Nd.cells, true, 5⟩
theorem Nd.len (L : List Nd) : (L.flatMap Nd.cells).length = L.length * 5 := by
  induction L with
  | nil => rfl
  | cons x L ih => simp only [List.flatMap_cons, List.length_append, ih, List.length_cons, Nd.cells, List.length_nil]; omega
theorem Tk.len (L : List Tk) : (L.flatMap Tk.cells).length = L.length * 4 := by
  induction L with
  | nil => rfl
  | cons x L ih => simp only [List.flatMap_cons, List.length_append, ih, List.length_cons, Tk.cells, List.length_nil]; omega
theorem chunk_at {α : Type} (f : α → List Value) (C : Nat) (hC : ∀ a, (f a).length = C) (x : α) : ∀ (L : List α) (i : Nat), L[i]? = some x → ((L.flatMap f).drop (i * C)).take C = f x
  | [], i, h => by simp at h
  | y :: L, 0, h => by
    simp only [List.getElem?_cons_zero, Option.some.injEq] at h
    subst h
    simp [hC]
  | y :: L, i + 1, h => by
    simp only [List.getElem?_cons_succ] at h
    rw [List.flatMap_cons, show (i + 1) * C = (f y).length + i * C by rw [hC, Nat.add_mul]; omega, ← List.drop_drop, List.drop_left]
    exact chunk_at f C hC x L i h
theorem cell_at {α : Type} (f : α → List Value) (C : Nat) (hC : ∀ a, (f a).length = C) {x : α} {L : List α} {i : Nat} (h : L[i]? = some x) {k : Nat} (hk : k < C) : (L.flatMap f)[i * C + k]? = (f x)[k]? := by
  have := chunk_at f C hC x L i h
  rw [← this, List.getElem?_take, if_pos hk, List.getElem?_drop]
theorem Tk.take {x : Tk} {L : List Tk} {i : Nat} (h : L[i]? = some x) : ((L.flatMap Tk.cells).drop (i * 4)).take 4 = x.cells := chunk_at Tk.cells 4 (fun _ => rfl) x L i h
theorem Tk.get {x : Tk} {L : List Tk} {i : Nat} (h : L[i]? = some x) (k : Nat) (hk : k < 4) : (L.flatMap Tk.cells)[i * 4 + k]? = x.cells[k]? := cell_at Tk.cells 4 (fun _ => rfl) h hk
theorem Tk.get0 {x : Tk} {L : List Tk} {i : Nat} (h : L[i]? = some x) : (L.flatMap Tk.cells)[i * 4]? = some (.int .i64 x.kind) := Tk.get h 0 (by omega)

structure Ps (σ0 σ : Heap) (p n0 c0 : Nat) (L : List Tk) (at_ : Nat) (nodes : List Nd) (code : Int) : Prop where
  pre : σ0 <+: σ
  lt : σ0.length ≤ p
  toks : ∃ ow sz, look σ0 n0 = some ⟨L.flatMap Tk.cells, ow, sz⟩
  le : at_ ≤ L.length
  big : L.length * 40 ≤ 140737488400000
  few : nodes.length ≤ 60
  blk : ∃ nv, look σ p = some ⟨[.slice (some ⟨n0, 0, none⟩) L.length c0, .int .i64 at_, nv, .int .i64 code], true, 0⟩ ∧ NV σ0.length σ nodes nv

set_option maxHeartbeats 1000000 in
theorem f72_ok (X : Ext) {σ0 σ : Heap} {p n0 c0 : Nat} {L : List Tk} {at_ : Nat} {nodes : List Nd} {code : Int} (h : Ps σ0 σ p n0 c0 L at_ nodes code) :
    CW Tryd.prog X 72 [.pointer (some ⟨p, 0, none⟩)] σ fun v σ' => v = .string (str (if code = 0 then (L[at_]?.map sgn).getD [] else [])) ∧ σ' = σ := by
  obtain ⟨ow, sz, ht⟩ := h.toks
  obtain ⟨nv, hb, hn⟩ := h.blk
  have ht' := look_prefix h.pre ht
  have hle := h.le
  refine cw_in Tryd.func72 rfl Tryd.ntmps72 (rs := [.tmp 2]) rfl (by kernel_rfl) (by exact Nat.le_of_ble_eq_true rfl) ?_
  by_cases hc : code = 0
  · by_cases hl : at_ < L.length
    · obtain ⟨x, hx⟩ : ∃ x, L[at_]? = some x := ⟨_, List.getElem?_eq_getElem hl⟩
      by_cases hk : x.kind = 3
      · simp only [go_sem, ↓reduceIte, Nat.reduceEqDiff, Nat.reduceAdd, Nat.reduceMul, Nat.reduceLT, Nat.reduceLeDiff, Int.reduceLT, Int.reduceLE, Int.reduceNeg, Int.reduceAdd, Int.reduceSub, Int.reduceMul, Int.reduceToNat, Int.reduceEq, Int.reduceNe, Int.cast_ofNat_Int, Int.natCast_one, Int.natCast_zero, Int.natCast_add, reduceCtorEq, hb, hc, show (at_ : Int) < (L.length : Int) by omega, ht', Tk.get0 hx, hk, Tk.get hx 1 (by omega), Tk.cells, hx, sgn]
      · simp only [go_sem, ↓reduceIte, Nat.reduceEqDiff, Nat.reduceAdd, Nat.reduceMul, Nat.reduceLT, Nat.reduceLeDiff, Int.reduceLT, Int.reduceLE, Int.reduceNeg, Int.reduceAdd, Int.reduceSub, Int.reduceMul, Int.reduceToNat, Int.reduceEq, Int.reduceNe, Int.cast_ofNat_Int, Int.natCast_one, Int.natCast_zero, Int.natCast_add, reduceCtorEq, hb, hc, show (at_ : Int) < (L.length : Int) by omega, ht', Tk.get0 hx, hk, hx, sgn]
    · simp only [go_sem, ↓reduceIte, Nat.reduceEqDiff, Nat.reduceAdd, Nat.reduceMul, Nat.reduceLT, Nat.reduceLeDiff, Int.reduceLT, Int.reduceLE, Int.reduceNeg, Int.reduceAdd, Int.reduceSub, Int.reduceMul, Int.reduceToNat, Int.reduceEq, Int.reduceNe, Int.cast_ofNat_Int, Int.natCast_one, Int.natCast_zero, Int.natCast_add, reduceCtorEq, hb, hc, show ¬ (at_ : Int) < (L.length : Int) by omega, List.getElem?_eq_none (show L.length ≤ at_ by omega), Option.getD_none]
  · simp only [go_sem, ↓reduceIte, Nat.reduceEqDiff, Nat.reduceAdd, Nat.reduceMul, Nat.reduceLT, Nat.reduceLeDiff, Int.reduceLT, Int.reduceLE, Int.reduceNeg, Int.reduceAdd, Int.reduceSub, Int.reduceMul, Int.reduceToNat, Int.reduceEq, Int.reduceNe, Int.cast_ofNat_Int, Int.natCast_one, Int.natCast_zero, Int.natCast_add, reduceCtorEq, hb, hc]

theorem prefix_set {σ ρ : Heap} {p : Nat} {b : Option Blk} (h : σ <+: ρ) (hp : σ.length ≤ p) : σ <+: ρ.set p b := by
  obtain ⟨τ, rfl⟩ := h
  rw [List.set_append_right _ _ hp]
  exact List.prefix_append _ _
theorem Ps.put {σ0 σ : Heap} {p n0 c0 : Nat} {L : List Tk} {at_ : Nat} {nodes : List Nd} {code : Int} (h : Ps σ0 σ p n0 c0 L at_ nodes code) {at' : Nat} {code' : Int} {nv : Value}
    (hb : look σ p = some ⟨[.slice (some ⟨n0, 0, none⟩) L.length c0, .int .i64 at_, nv, .int .i64 code], true, 0⟩) (hn : NV σ0.length σ nodes nv) (hle : at' ≤ L.length) :
    Ps σ0 (σ.set p (some ⟨[.slice (some ⟨n0, 0, none⟩) L.length c0, .int .i64 at', nv, .int .i64 code'], true, 0⟩)) p n0 c0 L at' nodes code' where
  pre := prefix_set h.pre h.lt
  lt := h.lt
  toks := h.toks
  le := hle
  big := h.big
  few := h.few
  blk := by
    have hp := look_lt hb
    refine ⟨nv, by rw [look_set hp, if_pos rfl], ?_⟩
    rcases hn with hn | ⟨q, c, h1, h2, h3, h4⟩
    · exact .inl hn
    · refine .inr ⟨q, c, h1, h2, h3, ?_⟩
      have hne : q ≠ p := by
        rintro rfl
        rw [hb] at h4
        have := congrArg Blk.sz (Option.some.inj h4)
        simp at this
      rw [look_set hp, if_neg hne]
      exact h4
theorem Ps.grow {σ0 σ : Heap} {p n0 c0 : Nat} {L : List Tk} {at_ : Nat} {nodes : List Nd} {code : Int} (h : Ps σ0 σ p n0 c0 L at_ nodes code) {σ' : Heap} (hp : σ <+: σ') : Ps σ0 σ' p n0 c0 L at_ nodes code where
  pre := h.pre.trans hp
  lt := h.lt
  toks := h.toks
  le := h.le
  big := h.big
  few := h.few
  blk := by
    obtain ⟨nv, h1, h2⟩ := h.blk
    refine ⟨nv, look_prefix hp h1, ?_⟩
    rcases h2 with h2 | ⟨q, c, k1, k2, k3, k4⟩
    · exact .inl h2
    · exact .inr ⟨q, c, k1, k2, k3, look_prefix hp k4⟩
set_option maxHeartbeats 1000000 in
theorem f101_ok (X : Ext) {σ0 σ : Heap} {p n0 c0 : Nat} {L : List Tk} {at_ : Nat} {nodes : List Nd} {code : Int} (h : Ps σ0 σ p n0 c0 L at_ nodes code) (cd : Int) (hcd : cd ≠ 0) :
    CW Tryd.prog X 101 [.pointer (some ⟨p, 0, none⟩), .int .i64 cd] σ fun v σ' => v = .int .i64 0 ∧ ∃ code', code' ≠ 0 ∧ Ps σ0 σ' p n0 c0 L at_ nodes code' := by
  obtain ⟨nv, hb, hn⟩ := h.blk
  have hp := look_lt hb
  refine cw_in Tryd.func101 rfl Tryd.ntmps101 (rs := [.tmp 4]) rfl (by kernel_rfl) (by exact Nat.le_of_ble_eq_true rfl) ?_
  by_cases hc : code = 0
  · simp only [go_sem, ↓reduceIte, Nat.reduceEqDiff, Nat.reduceAdd, Nat.reduceMul, Nat.reduceLT, Nat.reduceLeDiff, Int.reduceLT, Int.reduceLE, Int.reduceNeg, Int.reduceAdd, Int.reduceSub, Int.reduceMul, Int.reduceToNat, Int.reduceEq, Int.reduceNe, Int.cast_ofNat_Int, Int.natCast_one, Int.natCast_zero, Int.natCast_add, reduceCtorEq, hb, hc]
    exact ⟨cd, hcd, h.put hb hn h.le⟩
  · simp only [go_sem, ↓reduceIte, Nat.reduceEqDiff, Nat.reduceAdd, Nat.reduceMul, Nat.reduceLT, Nat.reduceLeDiff, Int.reduceLT, Int.reduceLE, Int.reduceNeg, Int.reduceAdd, Int.reduceSub, Int.reduceMul, Int.reduceToNat, Int.reduceEq, Int.reduceNe, Int.cast_ofNat_Int, Int.natCast_one, Int.natCast_zero, Int.natCast_add, reduceCtorEq, hb, hc]
    exact ⟨code, hc, h⟩
theorem look_set_app {σ l : Heap} {p : Nat} {b : Option Blk} (h : p < σ.length) : look (σ.set p b ++ l) p = b := by
  rw [look_app_lt (by rw [List.length_set]; exact h), look_set h, if_pos rfl]
theorem set_nil_prefix {σ0 σ : Heap} {q : Nat} {b : Option Blk} (h : σ0 <+: σ) (hq : σ0.length ≤ q) : σ0 <+: σ.set q b := prefix_set h hq
set_option maxHeartbeats 1000000 in
theorem f74_ok (X : Ext) {σ0 σ : Heap} {p n0 c0 : Nat} {L : List Tk} {at_ : Nat} {nodes : List Nd} {code : Int} (h : Ps σ0 σ p n0 c0 L at_ nodes code) (x : Nd) :
    CW Tryd.prog X 74 [.pointer (some ⟨p, 0, none⟩), .agg x.cells.toArray] σ fun v σ' => if nodes.length < 60 then v = .int .i64 nodes.length ∧ Ps σ0 σ' p n0 c0 L at_ (nodes ++ [x]) code else v = .int .i64 0 ∧ ∃ code', code' ≠ 0 ∧ Ps σ0 σ' p n0 c0 L at_ nodes code' := by
  obtain ⟨nv, hb, hn⟩ := h.blk
  have hp := look_lt hb
  have hfew := h.few
  have hlt := h.lt
  have hpre := h.pre.length_le
  refine cw_in Tryd.func74 rfl Tryd.ntmps74 (rs := [.tmp 4]) rfl (by kernel_rfl) (by exact Nat.le_of_ble_eq_true rfl) ?_
  rcases hn with ⟨rfl, rfl⟩ | ⟨q, c, rfl, hq, hpos, hql⟩
  · simp only [go_sem, ↓reduceIte, Nat.reduceEqDiff, Nat.reduceAdd, Nat.reduceMul, Nat.reduceLT, Nat.reduceLeDiff, Int.reduceLT, Int.reduceLE, Int.reduceNeg, Int.reduceAdd, Int.reduceSub, Int.reduceMul, Int.reduceToNat, Int.reduceEq, Int.reduceNe, Int.cast_ofNat_Int, Int.natCast_one, Int.natCast_zero, Int.natCast_add, reduceCtorEq, Nd.cells, hb, look_app_lt hp]
    (repeat (refine And.intro ?_ ?_; focus (first | (refine quiet_pre ?_; simp [List.cons_prefix_cons]; done) | (refine quiet_look ?_; kernel_rfl))))
    simp only [go_sem, ↓reduceIte, Nat.reduceEqDiff, Nat.reduceAdd, Nat.reduceMul, Nat.reduceLT, Nat.reduceLeDiff, Int.reduceLT, Int.reduceLE, Int.reduceNeg, Int.reduceAdd, Int.reduceSub, Int.reduceMul, Int.reduceToNat, Int.reduceEq, Int.reduceNe, Int.cast_ofNat_Int, Int.natCast_one, Int.natCast_zero, Int.natCast_add, reduceCtorEq, set_app_lt hp, look_set_app hp, Nat.reduceAdd]
    refine ⟨(prefix_set h.pre h.lt).trans (List.prefix_append _ _), h.lt, h.toks, h.le, h.big, by simp, _, look_set_app hp, .inr ⟨_, _, rfl, by omega, by simp, ?_⟩⟩
    rw [look_app_at (i := 2) (by simp)]
    rfl
  · have hqp := look_lt hql
    have hne : q ≠ p := by
      rintro rfl
      rw [hb] at hql
      have := congrArg Blk.sz (Option.some.inj hql)
      simp at this
    have hp2 : p < (σ.set q none).length := by rw [List.length_set]; exact hp
    have hlp : look (σ.set q none) p = look σ p := by rw [look_set hqp, if_neg (Ne.symm hne)]
    by_cases h60 : nodes.length = 60
    · simp only [go_sem, ↓reduceIte, Nat.reduceEqDiff, Nat.reduceAdd, Nat.reduceMul, Nat.reduceLT, Nat.reduceLeDiff, Int.reduceLT, Int.reduceLE, Int.reduceNeg, Int.reduceAdd, Int.reduceSub, Int.reduceMul, Int.reduceToNat, Int.reduceEq, Int.reduceNe, Int.cast_ofNat_Int, Int.natCast_one, Int.natCast_zero, Int.natCast_add, reduceCtorEq, Nd.cells, hb, look_app_lt hp, show (nodes.length : Int) = 60 by omega]
      refine (f101_ok X (h.grow (List.prefix_append σ [some ⟨x.cells, true, 0⟩])) 2 (by omega)).mono ?_
      rintro _ σ' ⟨rfl, code', hc, hps⟩
      simp only [go_sem, ↓reduceIte, Nat.reduceEqDiff, Nat.reduceAdd, Nat.reduceMul, Nat.reduceLT, Nat.reduceLeDiff, Int.reduceLT, Int.reduceLE, Int.reduceNeg, Int.reduceAdd, Int.reduceSub, Int.reduceMul, Int.reduceToNat, Int.reduceEq, Int.reduceNe, Int.cast_ofNat_Int, Int.natCast_one, Int.natCast_zero, Int.natCast_add, reduceCtorEq, h60]
      exact ⟨code', hc, hps⟩
    · have hnl := Nd.len nodes
      simp only [go_sem, ↓reduceIte, Nat.reduceEqDiff, Nat.reduceAdd, Nat.reduceMul, Nat.reduceLT, Nat.reduceLeDiff, Int.reduceLT, Int.reduceLE, Int.reduceNeg, Int.reduceAdd, Int.reduceSub, Int.reduceMul, Int.reduceToNat, Int.reduceEq, Int.reduceNe, Int.cast_ofNat_Int, Int.natCast_one, Int.natCast_zero, Int.natCast_add, reduceCtorEq, Nd.cells, hb, look_app_lt hp, show ¬ (nodes.length : Int) = 60 by omega, look_app_lt hqp, hql, hnl, show nodes.length ≠ 0 by omega, show (nodes.length + 1 + 410) * 48 ≤ 225179981368524 by omega, Nat.zero_add, set_app_lt hqp]
      (repeat (refine And.intro ?_ ?_; focus (first | (refine quiet_pre ?_; simp [List.cons_prefix_cons]; done) | (refine quiet_look ?_; kernel_rfl))))
      simp only [go_sem, ↓reduceIte, Nat.reduceEqDiff, Nat.reduceAdd, Nat.reduceMul, Nat.reduceLT, Nat.reduceLeDiff, Int.reduceLT, Int.reduceLE, Int.reduceNeg, Int.reduceAdd, Int.reduceSub, Int.reduceMul, Int.reduceToNat, Int.reduceEq, Int.reduceNe, Int.cast_ofNat_Int, Int.natCast_one, Int.natCast_zero, Int.natCast_add, reduceCtorEq, look_app_lt hp2, hlp, hb]
      (repeat (refine And.intro ?_ ?_; focus (first | (refine quiet_pre ?_; simp [List.cons_prefix_cons]; done) | (refine quiet_look ?_; kernel_rfl))))
      simp only [go_sem, ↓reduceIte, Nat.reduceEqDiff, Nat.reduceAdd, Nat.reduceMul, Nat.reduceLT, Nat.reduceLeDiff, Int.reduceLT, Int.reduceLE, Int.reduceNeg, Int.reduceAdd, Int.reduceSub, Int.reduceMul, Int.reduceToNat, Int.reduceEq, Int.reduceNe, Int.cast_ofNat_Int, Int.natCast_one, Int.natCast_zero, Int.natCast_add, reduceCtorEq, set_app_lt hp2, look_set_app hp2, Nat.reduceAdd, wrap64 (show -9223372036854775808 ≤ (nodes.length : Int) + 1 - 1 ∧ (nodes.length : Int) + 1 - 1 ≤ 9223372036854775807 by omega)]
      rw [if_pos (show nodes.length < 60 by omega)]
      refine ⟨by rw [Int.add_sub_cancel], (prefix_set (prefix_set h.pre hq) h.lt).trans (List.prefix_append _ _), h.lt, h.toks, h.le, h.big, by simp; omega, _, look_set_app hp2, .inr ⟨_, _, by rw [List.length_append]; rfl, by omega, by simp, ?_⟩⟩
      rw [look_app_at (i := 2) (by simp), List.flatMap_append]
      rfl
end Go.Proofs.YtkgdkommahgakaaDoor.Abs
