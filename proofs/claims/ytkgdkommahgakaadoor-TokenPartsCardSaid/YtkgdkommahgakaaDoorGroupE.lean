/- Part GroupE of the proof: an abstract machine for the program's calls, and what functions do on it. It has no conditions. -/
import Derived.Test.YtkgdkommahgakaaDoorGroupD
import Derived.Test.YtkgdkommahgakaaDoorGroupC
namespace Go.Proofs.YtkgdkommahgakaaDoor.Abs
open Go Go.RowKit Gram
set_option linter.unusedVariables false
set_option linter.unusedSimpArgs false
set_option maxRecDepth 100000

/-! ### nodes, and what tokens are to an expression -/
structure Nd where
  kind : Int
  value : Int
  name : List UInt8
  left : Int
  right : Int
deriving DecidableEq
def Nd.cells (x : Nd) : List Value := [.int .i64 x.kind, .int .i64 x.value, .string (str x.name), .int .i64 x.left, .int .i64 x.right]
def lvls : Nat → List (List UInt8)
  | 0 => [[124]]
  | 1 => [[94]]
  | 2 => [[38]]
  | 3 => [[60, 60], [62, 62]]
  | 4 => [[43], [45]]
  | 5 => [[42], [47], [37]]
  | _ => []
def lvlT (t : List UInt8) : Nat := if t = [124] then 1 else if t = [94] then 2 else if t = [38] then 3 else if t = [60, 60] ∨ t = [62, 62] then 4 else if t = [43] ∨ t = [45] then 5 else if t = [42] ∨ t = [47] ∨ t = [37] then 6 else 0
def cls (x : Tk) : Cl Nd :=
  if x.kind = 2 then .atom ⟨1, x.value, [], 0, 0⟩ else if x.kind = 1 then .atom ⟨2, 0, x.text, 0, 0⟩
  else if x.text = [40] then .lp else if x.text = [41] then .rp else if x.text = [126] then .tilde
  else if lvlT x.text = 0 then .other else .bin (lvlT x.text) (5 + idx ops x.text)
def sgn (x : Tk) : List UInt8 := if x.kind = 3 then x.text else []
def post : Tr Nd → List Nd → List Nd
  | .atom n, out => out ++ [n]
  | .un k t, out => post t out ++ [⟨k, 0, [], ((post t out).length : Int) - 1, 0⟩]
  | .bin k a b, out => post b (post a out) ++ [⟨k, 0, [], ((post a out).length : Int) - 1, ((post b (post a out)).length : Int) - 1⟩]
theorem post_len : ∀ (t : Tr Nd) (out : List Nd), (post t out).length = out.length + t.size
  | .atom n, out => by simp [post, Tr.size]
  | .un k t, out => by simp [post, Tr.size, post_len t out]; omega
  | .bin k a b, out => by simp [post, Tr.size, post_len a out, post_len b]; omega
theorem valid_kind {x : Tk} (h : validT x = true) : (x.kind = 1) ∨ (x.kind = 2) ∨ (x.kind = 3 ∧ x.text ∈ signs) := by
  unfold validT at h
  split at h
  · exact .inl (by assumption)
  · split at h
    · exact .inr (.inl (by assumption))
    · split at h
      · rename_i h3
        simp at h
        exact .inr (.inr ⟨h3, h.1⟩)
      · simp at h
theorem lvl_mem : ∀ t ∈ signs, ∀ k, k < 6 → (t ∈ lvls k ↔ lvlT t = k + 1) := by
  intro t ht k hk
  have : ∀ t ∈ signs, ∀ k : Fin 6, (t ∈ lvls k.val ↔ lvlT t = k.val + 1) := by decide
  exact this t ht ⟨k, hk⟩
theorem nil_lvls : ∀ k, ([] : List UInt8) ∉ lvls k
  | 0 => by decide
  | 1 => by decide
  | 2 => by decide
  | 3 => by decide
  | 4 => by decide
  | 5 => by decide
  | n + 6 => by simp [lvls]
theorem cls_lvl {x : Tk} (h : validT x = true) {k : Nat} (hk : k < 6) : sgn x ∈ lvls k ↔ (cls x).lvl = k + 1 := by
  rcases valid_kind h with h1 | h1 | ⟨h1, h2⟩
  · simp [sgn, cls, h1, nil_lvls, Cl.lvl]
  · simp [sgn, cls, h1, nil_lvls, Cl.lvl]
  · have e : sgn x = x.text := by rw [sgn, if_pos h1]
    rw [e, lvl_mem x.text h2 k hk]
    unfold cls
    rw [if_neg (by omega), if_neg (by omega)]
    have p1 : lvlT [40] = 0 := by decide
    have p2 : lvlT [41] = 0 := by decide
    have p3 : lvlT [126] = 0 := by decide
    by_cases q1 : x.text = [40]
    · rw [if_pos q1, q1, p1]; simp [Cl.lvl]
    · rw [if_neg q1]
      by_cases q2 : x.text = [41]
      · rw [if_pos q2, q2, p2]; simp [Cl.lvl]
      · rw [if_neg q2]
        by_cases q3 : x.text = [126]
        · rw [if_pos q3, q3, p3]; simp [Cl.lvl]
        · rw [if_neg q3]
          by_cases q4 : lvlT x.text = 0
          · rw [if_pos q4, q4]; simp [Cl.lvl]
          · rw [if_neg q4]; simp [Cl.lvl]
theorem cls_kind {x : Tk} (h : validT x = true) (hl : 0 < (cls x).lvl) : (cls x).kind = 5 + idx ops (sgn x) := by
  rcases valid_kind h with h1 | h1 | ⟨h1, h2⟩
  · simp [cls, h1, Cl.lvl] at hl
  · simp [cls, h1, Cl.lvl] at hl
  · have e : sgn x = x.text := by rw [sgn, if_pos h1]
    rw [e]
    unfold cls at hl ⊢
    rw [if_neg (by omega), if_neg (by omega)] at hl ⊢
    repeat' split at hl
    all_goals first | (simp [Cl.lvl] at hl; done) | skip
    rename_i q1 q2 q3 q4
    rw [if_neg q1, if_neg q2, if_neg q3, if_neg q4]
    rfl
theorem lvlT_le (t : List UInt8) : lvlT t ≤ 6 := by
  unfold lvlT
  repeat' split
  all_goals omega
theorem cls_ok (x : Tk) : (cls x).ok := by
  have := lvlT_le x.text
  unfold cls
  generalize lvlT x.text = n at *
  repeat' split
  all_goals first | trivial | (simp only [Cl.ok]; omega)

/-! ### the parser's state -/
def gcells (N : Nat → Nat) : List Value := (List.range 6).map fun i => .slice (some ⟨N i, 0, none⟩) (lvls i).length ((lvls i).length + 1)
def GL (σ : Heap) : Prop := ∃ N : Nat → Nat, (∃ sz, look σ 0 = some ⟨gcells N, false, sz⟩) ∧ ∀ i, i < 6 → ∃ ow sz, look σ (N i) = some ⟨(lvls i).map vstr, ow, sz⟩
theorem GL.mono {σ σ' : Heap} (h : GL σ) (hp : σ <+: σ') : GL σ' := by
  obtain ⟨N, ⟨sz, h1⟩, h2⟩ := h
  exact ⟨N, ⟨sz, look_prefix hp h1⟩, fun i hi => by obtain ⟨ow, sz, h3⟩ := h2 i hi; exact ⟨ow, sz, look_prefix hp h3⟩⟩
def NV (b : Nat) (σ : Heap) (nodes : List Nd) (v : Value) : Prop :=
  (nodes = [] ∧ v = .slice none 0 0) ∨ ∃ q c, v = .slice (some ⟨q, 0, none⟩) nodes.length c ∧ b ≤ q ∧ 0 < nodes.length ∧ look σ q = some ⟨nodes.flatMap Nd.cells, true, 5⟩
theorem Nd.len (L : List Nd) : (L.flatMap Nd.cells).length = L.length * 5 := by
  induction L with
  | nil => rfl
  | cons x L ih => simp only [List.flatMap_cons, List.length_append, ih, List.length_cons, Nd.cells, List.length_nil]; omega
theorem Tk.len (L : List Tk) : (L.flatMap Tk.cells).length = L.length * 4 := by
  induction L with
  | nil => rfl
  | cons x L ih => simp only [List.flatMap_cons, List.length_append, ih, List.length_cons, Tk.cells, List.length_nil]; omega
theorem chunk_at {α : Type} (f : α → List Value) (C : Nat) (hC : ∀ a, (f a).length = C) (x : α) : ∀ (L : List α) (i : Nat), L[i]? = some x → ((L.flatMap f).drop (i * C)).take C = f x
  | [], i, h => by simp at h
  | y :: L, 0, h => by
    simp only [List.getElem?_cons_zero, Option.some.injEq] at h
    subst h
    simp [hC]
  | y :: L, i + 1, h => by
    simp only [List.getElem?_cons_succ] at h
    rw [List.flatMap_cons, show (i + 1) * C = (f y).length + i * C by rw [hC, Nat.add_mul]; omega, ← List.drop_drop, List.drop_left]
    exact chunk_at f C hC x L i h
theorem cell_at {α : Type} (f : α → List Value) (C : Nat) (hC : ∀ a, (f a).length = C) {x : α} {L : List α} {i : Nat} (h : L[i]? = some x) {k : Nat} (hk : k < C) : (L.flatMap f)[i * C + k]? = (f x)[k]? := by
  have := chunk_at f C hC x L i h
  rw [← this, List.getElem?_take, if_pos hk, List.getElem?_drop]
theorem Tk.take {x : Tk} {L : List Tk} {i : Nat} (h : L[i]? = some x) : ((L.flatMap Tk.cells).drop (i * 4)).take 4 = x.cells := chunk_at Tk.cells 4 (fun _ => rfl) x L i h
theorem Tk.get {x : Tk} {L : List Tk} {i : Nat} (h : L[i]? = some x) (k : Nat) (hk : k < 4) : (L.flatMap Tk.cells)[i * 4 + k]? = x.cells[k]? := cell_at Tk.cells 4 (fun _ => rfl) h hk
theorem Tk.get0 {x : Tk} {L : List Tk} {i : Nat} (h : L[i]? = some x) : (L.flatMap Tk.cells)[i * 4]? = some (.int .i64 x.kind) := Tk.get h 0 (by omega)

structure Ps (σ0 σ : Heap) (p n0 c0 : Nat) (L : List Tk) (at_ : Nat) (nodes : List Nd) (code : Int) : Prop where
  pre : σ0 <+: σ
  lt : σ0.length ≤ p
  toks : ∃ ow sz, look σ0 n0 = some ⟨L.flatMap Tk.cells, ow, sz⟩
  le : at_ ≤ L.length
  big : L.length * 40 ≤ 140737488400000
  few : nodes.length ≤ 60
  blk : ∃ nv, look σ p = some ⟨[.slice (some ⟨n0, 0, none⟩) L.length c0, .int .i64 at_, nv, .int .i64 code], true, 0⟩ ∧ NV σ0.length σ nodes nv

set_option maxHeartbeats 1000000 in
theorem f72_ok (X : Ext) {σ0 σ : Heap} {p n0 c0 : Nat} {L : List Tk} {at_ : Nat} {nodes : List Nd} {code : Int} (h : Ps σ0 σ p n0 c0 L at_ nodes code) :
    CW Tryd.prog X 72 [.pointer (some ⟨p, 0, none⟩)] σ fun v σ' => v = .string (str (if code = 0 then (L[at_]?.map sgn).getD [] else [])) ∧ σ' = σ := by
  obtain ⟨ow, sz, ht⟩ := h.toks
  obtain ⟨nv, hb, hn⟩ := h.blk
  have ht' := look_prefix h.pre ht
  have hle := h.le
  refine cw_in Tryd.func72 rfl Tryd.ntmps72 (rs := [.tmp 2]) rfl (by kernel_rfl) (by exact Nat.le_of_ble_eq_true rfl) ?_
  by_cases hc : code = 0
  · by_cases hl : at_ < L.length
    · obtain ⟨x, hx⟩ : ∃ x, L[at_]? = some x := ⟨_, List.getElem?_eq_getElem hl⟩
      by_cases hk : x.kind = 3
      · simp only [go_sem, ↓reduceIte, Nat.reduceEqDiff, Nat.reduceAdd, Nat.reduceMul, Nat.reduceLT, Nat.reduceLeDiff, Int.reduceLT, Int.reduceLE, Int.reduceNeg, Int.reduceAdd, Int.reduceSub, Int.reduceMul, Int.reduceToNat, Int.reduceEq, Int.reduceNe, Int.cast_ofNat_Int, Int.natCast_one, Int.natCast_zero, Int.natCast_add, reduceCtorEq, hb, hc, show (at_ : Int) < (L.length : Int) by omega, ht', Tk.get0 hx, hk, Tk.get hx 1 (by omega), Tk.cells, hx, sgn]
      · simp only [go_sem, ↓reduceIte, Nat.reduceEqDiff, Nat.reduceAdd, Nat.reduceMul, Nat.reduceLT, Nat.reduceLeDiff, Int.reduceLT, Int.reduceLE, Int.reduceNeg, Int.reduceAdd, Int.reduceSub, Int.reduceMul, Int.reduceToNat, Int.reduceEq, Int.reduceNe, Int.cast_ofNat_Int, Int.natCast_one, Int.natCast_zero, Int.natCast_add, reduceCtorEq, hb, hc, show (at_ : Int) < (L.length : Int) by omega, ht', Tk.get0 hx, hk, hx, sgn]
    · simp only [go_sem, ↓reduceIte, Nat.reduceEqDiff, Nat.reduceAdd, Nat.reduceMul, Nat.reduceLT, Nat.reduceLeDiff, Int.reduceLT, Int.reduceLE, Int.reduceNeg, Int.reduceAdd, Int.reduceSub, Int.reduceMul, Int.reduceToNat, Int.reduceEq, Int.reduceNe, Int.cast_ofNat_Int, Int.natCast_one, Int.natCast_zero, Int.natCast_add, reduceCtorEq, hb, hc, show ¬ (at_ : Int) < (L.length : Int) by omega, List.getElem?_eq_none (show L.length ≤ at_ by omega), Option.getD_none]
  · simp only [go_sem, ↓reduceIte, Nat.reduceEqDiff, Nat.reduceAdd, Nat.reduceMul, Nat.reduceLT, Nat.reduceLeDiff, Int.reduceLT, Int.reduceLE, Int.reduceNeg, Int.reduceAdd, Int.reduceSub, Int.reduceMul, Int.reduceToNat, Int.reduceEq, Int.reduceNe, Int.cast_ofNat_Int, Int.natCast_one, Int.natCast_zero, Int.natCast_add, reduceCtorEq, hb, hc]

theorem prefix_set {σ ρ : Heap} {p : Nat} {b : Option Blk} (h : σ <+: ρ) (hp : σ.length ≤ p) : σ <+: ρ.set p b := by
  obtain ⟨τ, rfl⟩ := h
  rw [List.set_append_right _ _ hp]
  exact List.prefix_append _ _
theorem Ps.put {σ0 σ : Heap} {p n0 c0 : Nat} {L : List Tk} {at_ : Nat} {nodes : List Nd} {code : Int} (h : Ps σ0 σ p n0 c0 L at_ nodes code) {at' : Nat} {code' : Int} {nv : Value}
    (hb : look σ p = some ⟨[.slice (some ⟨n0, 0, none⟩) L.length c0, .int .i64 at_, nv, .int .i64 code], true, 0⟩) (hn : NV σ0.length σ nodes nv) (hle : at' ≤ L.length) :
    Ps σ0 (σ.set p (some ⟨[.slice (some ⟨n0, 0, none⟩) L.length c0, .int .i64 at', nv, .int .i64 code'], true, 0⟩)) p n0 c0 L at' nodes code' where
  pre := prefix_set h.pre h.lt
  lt := h.lt
  toks := h.toks
  le := hle
  big := h.big
  few := h.few
  blk := by
    have hp := look_lt hb
    refine ⟨nv, by rw [look_set hp, if_pos rfl], ?_⟩
    rcases hn with hn | ⟨q, c, h1, h2, h3, h4⟩
    · exact .inl hn
    · refine .inr ⟨q, c, h1, h2, h3, ?_⟩
      have hne : q ≠ p := by
        rintro rfl
        rw [hb] at h4
        have := congrArg Blk.sz (Option.some.inj h4)
        simp at this
      rw [look_set hp, if_neg hne]
      exact h4
theorem Ps.grow {σ0 σ : Heap} {p n0 c0 : Nat} {L : List Tk} {at_ : Nat} {nodes : List Nd} {code : Int} (h : Ps σ0 σ p n0 c0 L at_ nodes code) {σ' : Heap} (hp : σ <+: σ') : Ps σ0 σ' p n0 c0 L at_ nodes code where
  pre := h.pre.trans hp
  lt := h.lt
  toks := h.toks
  le := h.le
  big := h.big
  few := h.few
  blk := by
    obtain ⟨nv, h1, h2⟩ := h.blk
    refine ⟨nv, look_prefix hp h1, ?_⟩
    rcases h2 with h2 | ⟨q, c, k1, k2, k3, k4⟩
    · exact .inl h2
    · exact .inr ⟨q, c, k1, k2, k3, look_prefix hp k4⟩
set_option maxHeartbeats 1000000 in
theorem f101_ok (X : Ext) {σ0 σ : Heap} {p n0 c0 : Nat} {L : List Tk} {at_ : Nat} {nodes : List Nd} {code : Int} (h : Ps σ0 σ p n0 c0 L at_ nodes code) (cd : Int) (hcd : cd ≠ 0) :
    CW Tryd.prog X 101 [.pointer (some ⟨p, 0, none⟩), .int .i64 cd] σ fun v σ' => v = .int .i64 0 ∧ ∃ code', code' ≠ 0 ∧ Ps σ0 σ' p n0 c0 L at_ nodes code' := by
  obtain ⟨nv, hb, hn⟩ := h.blk
  have hp := look_lt hb
  refine cw_in Tryd.func101 rfl Tryd.ntmps101 (rs := [.tmp 4]) rfl (by kernel_rfl) (by exact Nat.le_of_ble_eq_true rfl) ?_
  by_cases hc : code = 0
  · simp only [go_sem, ↓reduceIte, Nat.reduceEqDiff, Nat.reduceAdd, Nat.reduceMul, Nat.reduceLT, Nat.reduceLeDiff, Int.reduceLT, Int.reduceLE, Int.reduceNeg, Int.reduceAdd, Int.reduceSub, Int.reduceMul, Int.reduceToNat, Int.reduceEq, Int.reduceNe, Int.cast_ofNat_Int, Int.natCast_one, Int.natCast_zero, Int.natCast_add, reduceCtorEq, hb, hc]
    exact ⟨cd, hcd, h.put hb hn h.le⟩
  · simp only [go_sem, ↓reduceIte, Nat.reduceEqDiff, Nat.reduceAdd, Nat.reduceMul, Nat.reduceLT, Nat.reduceLeDiff, Int.reduceLT, Int.reduceLE, Int.reduceNeg, Int.reduceAdd, Int.reduceSub, Int.reduceMul, Int.reduceToNat, Int.reduceEq, Int.reduceNe, Int.cast_ofNat_Int, Int.natCast_one, Int.natCast_zero, Int.natCast_add, reduceCtorEq, hb, hc]
    exact ⟨code, hc, h⟩
theorem look_set_app {σ l : Heap} {p : Nat} {b : Option Blk} (h : p < σ.length) : look (σ.set p b ++ l) p = b := by
  rw [look_app_lt (by rw [List.length_set]; exact h), look_set h, if_pos rfl]
theorem set_nil_prefix {σ0 σ : Heap} {q : Nat} {b : Option Blk} (h : σ0 <+: σ) (hq : σ0.length ≤ q) : σ0 <+: σ.set q b := prefix_set h hq
set_option maxHeartbeats 1000000 in
theorem f74_ok (X : Ext) {σ0 σ : Heap} {p n0 c0 : Nat} {L : List Tk} {at_ : Nat} {nodes : List Nd} {code : Int} (h : Ps σ0 σ p n0 c0 L at_ nodes code) (x : Nd) :
    CW Tryd.prog X 74 [.pointer (some ⟨p, 0, none⟩), .agg x.cells.toArray] σ fun v σ' => if nodes.length < 60 then v = .int .i64 nodes.length ∧ Ps σ0 σ' p n0 c0 L at_ (nodes ++ [x]) code else v = .int .i64 0 ∧ ∃ code', code' ≠ 0 ∧ Ps σ0 σ' p n0 c0 L at_ nodes code' := by
  obtain ⟨nv, hb, hn⟩ := h.blk
  have hp := look_lt hb
  have hfew := h.few
  have hlt := h.lt
  have hpre := h.pre.length_le
  refine cw_in Tryd.func74 rfl Tryd.ntmps74 (rs := [.tmp 4]) rfl (by kernel_rfl) (by exact Nat.le_of_ble_eq_true rfl) ?_
  rcases hn with ⟨rfl, rfl⟩ | ⟨q, c, rfl, hq, hpos, hql⟩
  · simp only [go_sem, ↓reduceIte, Nat.reduceEqDiff, Nat.reduceAdd, Nat.reduceMul, Nat.reduceLT, Nat.reduceLeDiff, Int.reduceLT, Int.reduceLE, Int.reduceNeg, Int.reduceAdd, Int.reduceSub, Int.reduceMul, Int.reduceToNat, Int.reduceEq, Int.reduceNe, Int.cast_ofNat_Int, Int.natCast_one, Int.natCast_zero, Int.natCast_add, reduceCtorEq, Nd.cells, hb, look_app_lt hp]
    (repeat (refine And.intro ?_ ?_; focus (first | (refine quiet_pre ?_; simp [List.cons_prefix_cons]; done) | (refine quiet_look ?_; kernel_rfl))))
    simp only [go_sem, ↓reduceIte, Nat.reduceEqDiff, Nat.reduceAdd, Nat.reduceMul, Nat.reduceLT, Nat.reduceLeDiff, Int.reduceLT, Int.reduceLE, Int.reduceNeg, Int.reduceAdd, Int.reduceSub, Int.reduceMul, Int.reduceToNat, Int.reduceEq, Int.reduceNe, Int.cast_ofNat_Int, Int.natCast_one, Int.natCast_zero, Int.natCast_add, reduceCtorEq, set_app_lt hp, look_set_app hp, Nat.reduceAdd]
    refine ⟨(prefix_set h.pre h.lt).trans (List.prefix_append _ _), h.lt, h.toks, h.le, h.big, by simp, _, look_set_app hp, .inr ⟨_, _, rfl, by omega, by simp, ?_⟩⟩
    rw [look_app_at (i := 2) (by simp)]
    rfl
  · have hqp := look_lt hql
    have hne : q ≠ p := by
      rintro rfl
      rw [hb] at hql
      have := congrArg Blk.sz (Option.some.inj hql)
      simp at this
    have hp2 : p < (σ.set q none).length := by rw [List.length_set]; exact hp
    have hlp : look (σ.set q none) p = look σ p := by rw [look_set hqp, if_neg (Ne.symm hne)]
    by_cases h60 : nodes.length = 60
    · simp only [go_sem, ↓reduceIte, Nat.reduceEqDiff, Nat.reduceAdd, Nat.reduceMul, Nat.reduceLT, Nat.reduceLeDiff, Int.reduceLT, Int.reduceLE, Int.reduceNeg, Int.reduceAdd, Int.reduceSub, Int.reduceMul, Int.reduceToNat, Int.reduceEq, Int.reduceNe, Int.cast_ofNat_Int, Int.natCast_one, Int.natCast_zero, Int.natCast_add, reduceCtorEq, Nd.cells, hb, look_app_lt hp, show (nodes.length : Int) = 60 by omega]
      refine (f101_ok X (h.grow (List.prefix_append σ [some ⟨x.cells, true, 0⟩])) 2 (by omega)).mono ?_
      rintro _ σ' ⟨rfl, code', hc, hps⟩
      simp only [go_sem, ↓reduceIte, Nat.reduceEqDiff, Nat.reduceAdd, Nat.reduceMul, Nat.reduceLT, Nat.reduceLeDiff, Int.reduceLT, Int.reduceLE, Int.reduceNeg, Int.reduceAdd, Int.reduceSub, Int.reduceMul, Int.reduceToNat, Int.reduceEq, Int.reduceNe, Int.cast_ofNat_Int, Int.natCast_one, Int.natCast_zero, Int.natCast_add, reduceCtorEq, h60]
      exact ⟨code', hc, hps⟩
    · have hnl := Nd.len nodes
      simp only [go_sem, ↓reduceIte, Nat.reduceEqDiff, Nat.reduceAdd, Nat.reduceMul, Nat.reduceLT, Nat.reduceLeDiff, Int.reduceLT, Int.reduceLE, Int.reduceNeg, Int.reduceAdd, Int.reduceSub, Int.reduceMul, Int.reduceToNat, Int.reduceEq, Int.reduceNe, Int.cast_ofNat_Int, Int.natCast_one, Int.natCast_zero, Int.natCast_add, reduceCtorEq, Nd.cells, hb, look_app_lt hp, show ¬ (nodes.length : Int) = 60 by omega, look_app_lt hqp, hql, hnl, show nodes.length ≠ 0 by omega, show (nodes.length + 1 + 410) * 48 ≤ 225179981368524 by omega, Nat.zero_add, set_app_lt hqp]
      (repeat (refine And.intro ?_ ?_; focus (first | (refine quiet_pre ?_; simp [List.cons_prefix_cons]; done) | (refine quiet_look ?_; kernel_rfl))))
      simp only [go_sem, ↓reduceIte, Nat.reduceEqDiff, Nat.reduceAdd, Nat.reduceMul, Nat.reduceLT, Nat.reduceLeDiff, Int.reduceLT, Int.reduceLE, Int.reduceNeg, Int.reduceAdd, Int.reduceSub, Int.reduceMul, Int.reduceToNat, Int.reduceEq, Int.reduceNe, Int.cast_ofNat_Int, Int.natCast_one, Int.natCast_zero, Int.natCast_add, reduceCtorEq, look_app_lt hp2, hlp, hb]
      (repeat (refine And.intro ?_ ?_; focus (first | (refine quiet_pre ?_; simp [List.cons_prefix_cons]; done) | (refine quiet_look ?_; kernel_rfl))))
      simp only [go_sem, ↓reduceIte, Nat.reduceEqDiff, Nat.reduceAdd, Nat.reduceMul, Nat.reduceLT, Nat.reduceLeDiff, Int.reduceLT, Int.reduceLE, Int.reduceNeg, Int.reduceAdd, Int.reduceSub, Int.reduceMul, Int.reduceToNat, Int.reduceEq, Int.reduceNe, Int.cast_ofNat_Int, Int.natCast_one, Int.natCast_zero, Int.natCast_add, reduceCtorEq, set_app_lt hp2, look_set_app hp2, Nat.reduceAdd, wrap64 (show -9223372036854775808 ≤ (nodes.length : Int) + 1 - 1 ∧ (nodes.length : Int) + 1 - 1 ≤ 9223372036854775807 by omega)]
      rw [if_pos (show nodes.length < 60 by omega)]
      refine ⟨by rw [Int.add_sub_cancel], (prefix_set (prefix_set h.pre hq) h.lt).trans (List.prefix_append _ _), h.lt, h.toks, h.le, h.big, by simp; omega, _, look_set_app hp2, .inr ⟨_, _, by rw [List.length_append]; rfl, by omega, by simp, ?_⟩⟩
      rw [look_app_at (i := 2) (by simp), List.flatMap_append]
      rfl
end Go.Proofs.YtkgdkommahgakaaDoor.Abs

namespace Go.Proofs.YtkgdkommahgakaaDoor.Abs
open Go Go.RowKit Gram
set_option linter.unusedVariables false
set_option linter.unusedSimpArgs false
set_option maxRecDepth 100000

theorem f71_ok (X : Ext) (L : List (List UInt8)) (s : List UInt8) (n la c : Nat) (ow : Bool) (sz : Nat) (σ : Heap) (hl : look σ n = some ⟨L.map vstr, ow, sz⟩) (hla : la = L.length) (hL : L.length ≤ 1000000) :
    CW Tryd.prog X 71 [.slice (some ⟨n, 0, none⟩) la c, .string (str s)] σ fun v σ' => v = .bool (decide (s ∈ L)) ∧ σ' = σ := by
  subst hla
  refine cw_in Tryd.func71 rfl Tryd.ntmps71 (rs := [.tmp 4]) rfl (by kernel_rfl) (by exact Nat.le_of_ble_eq_true rfl) ?_
  simp only [go_sem, ↓reduceIte, Nat.reduceEqDiff, Nat.reduceAdd, Nat.reduceMul, Nat.reduceLT, Nat.reduceLeDiff, Int.reduceLT, Int.reduceLE, Int.reduceNeg, Int.reduceAdd, Int.reduceSub, Int.reduceMul, Int.reduceToNat, Int.reduceEq, Int.reduceNe, Int.cast_ofNat_Int, Int.natCast_one, Int.natCast_zero, Int.natCast_add, reduceCtorEq]
  refine (f102_ok X L s n 0 c ow sz σ hl hL).mono ?_
  rintro _ _ ⟨rfl, rfl⟩
  simp only [go_sem, ↓reduceIte, Nat.reduceEqDiff, Nat.reduceAdd, Nat.reduceMul, Nat.reduceLT, Nat.reduceLeDiff, Int.reduceLT, Int.reduceLE, Int.reduceNeg, Int.reduceAdd, Int.reduceSub, Int.reduceMul, Int.reduceToNat, Int.reduceEq, Int.reduceNe, Int.cast_ofNat_Int, Int.natCast_one, Int.natCast_zero, Int.natCast_add, reduceCtorEq]
  exact congrArg _ (decide_eq_decide.2 idx_mem)
theorem f73_ok (X : Ext) (s : List UInt8) (σ : Heap) : CW Tryd.prog X 73 [.string (str s)] σ fun v σ' => v = .int .i64 (5 + idx ops s) ∧ σ <+: σ' := by
  refine cw_in Tryd.func73 rfl Tryd.ntmps73 (rs := [.tmp 2]) rfl (by kernel_rfl) (by exact Nat.le_of_ble_eq_true rfl) ?_
  have h1 := idx_ge ops s
  have h2 : idx ops s ≤ 10 := by
    unfold ops
    simp only [idx]
    repeat' split
    all_goals omega
  simp only [go_sem, ↓reduceIte, Nat.reduceEqDiff, Nat.reduceAdd, Nat.reduceMul, Nat.reduceLT, Nat.reduceLeDiff, Int.reduceLT, Int.reduceLE, Int.reduceNeg, Int.reduceAdd, Int.reduceSub, Int.reduceMul, Int.reduceToNat, Int.reduceEq, Int.reduceNe, Int.cast_ofNat_Int, Int.natCast_one, Int.natCast_zero, Int.natCast_add, reduceCtorEq]
  refine (f102_ok X ops s σ.length 0 10 true 1 _ (by rw [look_app_new, look_zero]; rfl) (by decide)).mono ?_
  rintro _ _ ⟨rfl, rfl⟩
  simp only [go_sem, ↓reduceIte, Nat.reduceEqDiff, Nat.reduceAdd, Nat.reduceMul, Nat.reduceLT, Nat.reduceLeDiff, Int.reduceLT, Int.reduceLE, Int.reduceNeg, Int.reduceAdd, Int.reduceSub, Int.reduceMul, Int.reduceToNat, Int.reduceEq, Int.reduceNe, Int.cast_ofNat_Int, Int.natCast_one, Int.natCast_zero, Int.natCast_add, reduceCtorEq, wrap64 (show -9223372036854775808 ≤ 5 + idx ops s ∧ 5 + idx ops s ≤ 9223372036854775807 by omega)]
  exact List.prefix_append _ _
theorem e_glob0 {T : Tm} : aev Tryd.prog T (.global 0) = .pointer (some ⟨0, 0, none⟩) := by
  simp only [aev]
  rw [if_pos (Nat.lt_of_lt_of_eq (show 0 < 7 by omega) (show 7 = Tryd.prog.globals.size by kernel_rfl))]
attribute [go_sem ↓] e_glob0

/-- What reading an operand, or operands with signs, leaves. -/
def After (σ0 : Heap) (p n0 c0 : Nat) (L : List Tk) (at_ : Nat) (nodes : List Nd) (code : Int) (res : Option (Tr Nd × List (Cl Nd))) (v : Value) (σ' : Heap) : Prop :=
  match res with
  | some (t, r) => code = 0 → ∃ at' : Nat, at_ < at' ∧ r = (L.drop at').map cls ∧ v = .int .i64 (((post t nodes).length : Int) - 1) ∧ Ps σ0 σ' p n0 c0 L at' (post t nodes) 0
  | none => code = 0 → ∃ (at' : Nat) (nodes' : List Nd) (code' w : Int), v = .int .i64 w ∧ code' ≠ 0 ∧ Ps σ0 σ' p n0 c0 L at' nodes' code'
def Fails (σ0 : Heap) (p n0 c0 : Nat) (L : List Tk) (v : Value) (σ' : Heap) : Prop := ∃ (at' : Nat) (nodes' : List Nd) (code' w : Int), v = .int .i64 w ∧ code' ≠ 0 ∧ Ps σ0 σ' p n0 c0 L at' nodes' code'

def UnaryOk (F : Nat) : Prop := ∀ {σ0 σ : Heap} {p n0 c0 : Nat} {L : List Tk} {at_ : Nat} {nodes : List Nd} {code : Int} (d : Nat), GL σ0 → (∀ x ∈ L, validT x = true) → Ps σ0 σ p n0 c0 L at_ nodes code → d ≤ 8 → 9 * (L.length - at_) < F →
  CW Tryd.prog XL 70 [.pointer (some ⟨p, 0, none⟩), .int .i64 d] σ fun v σ' => (code ≠ 0 → Fails σ0 p n0 c0 L v σ') ∧ After σ0 p n0 c0 L at_ nodes code (pU F d nodes.length ((L.drop at_).map cls)) v σ'
def BinaryOk (F : Nat) : Prop := ∀ {σ0 σ : Heap} {p n0 c0 : Nat} {L : List Tk} {at_ : Nat} {nodes : List Nd} {code : Int} (k d : Nat), k ≤ 6 → GL σ0 → (∀ x ∈ L, validT x = true) → Ps σ0 σ p n0 c0 L at_ nodes code → d ≤ 8 → 9 * (L.length - at_) + (7 - k) < F →
  CW Tryd.prog XL 47 [.pointer (some ⟨p, 0, none⟩), .int .i64 k, .int .i64 d] σ fun v σ' => (code ≠ 0 → Fails σ0 p n0 c0 L v σ') ∧ After σ0 p n0 c0 L at_ nodes code (pB F k d nodes.length ((L.drop at_).map cls)) v σ'
theorem drop_map {L : List Tk} {i : Nat} {x : Tk} (h : L[i]? = some x) : (L.drop i).map cls = cls x :: (L.drop (i + 1)).map cls := by
  obtain ⟨hi, rfl⟩ := List.getElem?_eq_some_iff.1 h
  rw [List.drop_eq_getElem_cons hi, List.map_cons]

theorem f101_fail {σ0 σ : Heap} {p n0 c0 : Nat} {L : List Tk} {at_ : Nat} {nodes : List Nd} {code : Int} (h : Ps σ0 σ p n0 c0 L at_ nodes code) (cd : Int) (hcd : cd ≠ 0) :
    CW Tryd.prog XL 101 [.pointer (some ⟨p, 0, none⟩), .int .i64 cd] σ fun v σ' => Fails σ0 p n0 c0 L v σ' := by
  refine (f101_ok XL h cd hcd).mono ?_
  rintro _ σ' ⟨rfl, code', hc', hps⟩
  exact ⟨at_, nodes, code', 0, rfl, hc', hps⟩
theorem f74_fail {σ0 σ : Heap} {p n0 c0 : Nat} {L : List Tk} {at_ : Nat} {nodes : List Nd} {code : Int} (h : Ps σ0 σ p n0 c0 L at_ nodes code) (hc : code ≠ 0) (x : Nd) :
    CW Tryd.prog XL 74 [.pointer (some ⟨p, 0, none⟩), .agg x.cells.toArray] σ fun v σ' => Fails σ0 p n0 c0 L v σ' := by
  refine (f74_ok XL h x).mono ?_
  intro v σ' hh
  split at hh
  · obtain ⟨rfl, hps⟩ := hh
    exact ⟨at_, _, code, _, rfl, hc, hps⟩
  · obtain ⟨rfl, code', hc', hps⟩ := hh
    exact ⟨at_, nodes, code', 0, rfl, hc', hps⟩
theorem after_none {σ0 : Heap} {p n0 c0 : Nat} {L : List Tk} {at_ : Nat} {nodes : List Nd} {v : Value} {σ' : Heap} {res : Option (Tr Nd × List (Cl Nd))} (hr : res = none) (h : Fails σ0 p n0 c0 L v σ') : After σ0 p n0 c0 L at_ nodes 0 res v σ' := by
  subst hr
  exact fun _ => h
theorem idx_minus {t : List UInt8} (h : t ≠ [45]) : idx ops t ≠ 1 := by
  unfold ops
  simp only [idx]
  by_cases h1 : ([43] : List UInt8) = t
  · simp [h1]
  · rw [if_neg h1, if_neg (Ne.symm h)]
    repeat' split
    all_goals omega
theorem cls_minus {x : Tk} (hk : x.kind = 3) (ht : x.text = [45]) : cls x = .bin 5 6 := by
  unfold cls
  rw [hk, ht]
  rfl
theorem cls_tilde {x : Tk} (hk : x.kind = 3) (ht : x.text = [126]) : cls x = .tilde := by
  unfold cls
  rw [hk, ht]
  rfl
theorem cls_lp {x : Tk} (hk : x.kind = 3) (ht : x.text = [40]) : cls x = .lp := by
  unfold cls
  rw [hk, ht]
  rfl
theorem pU_other {x : Tk} (hk : x.kind = 3) (h1 : x.text ≠ [45]) (h2 : x.text ≠ [126]) (h3 : x.text ≠ [40]) (F d n : Nat) (r : List (Cl Nd)) : pU (F + 1) d n (cls x :: r) = none := by
  unfold cls
  rw [if_neg (by omega), if_neg (by omega), if_neg h3, if_neg h2]
  split
  · rw [pU_cons]; rfl
  · split
    · rw [pU_cons]; rfl
    · rw [pU_cons]
      simp only [Cl.un]
      rw [if_neg (by have := idx_minus h1; omega)]
theorem cls_rp {x : Tk} (hv : validT x = true) : sgn x = [41] ↔ cls x = .rp := by
  rcases valid_kind hv with h1 | h1 | ⟨h1, h2⟩
  · simp [sgn, cls, h1]
  · simp [sgn, cls, h1]
  · rw [sgn, if_pos h1]
    unfold cls
    rw [if_neg (by omega), if_neg (by omega)]
    by_cases q1 : x.text = [40]
    · simp [q1]
    · by_cases q2 : x.text = [41]
      · simp [q2]
      · rw [if_neg q1, if_neg q2]
        constructor
        · exact fun h => absurd h q2
        · intro h
          split at h
          · simp at h
          · split at h <;> simp at h

theorem lit_45_40 : (([45] : List UInt8) = [40]) = False := eq_false (by decide)
theorem lit_45_126 : (([45] : List UInt8) = [126]) = False := eq_false (by decide)
theorem lit_126_45 : (([126] : List UInt8) = [45]) = False := eq_false (by decide)
theorem lit_126_40 : (([126] : List UInt8) = [40]) = False := eq_false (by decide)
theorem lit_40_45 : (([40] : List UInt8) = [45]) = False := eq_false (by decide)
theorem lit_40_126 : (([40] : List UInt8) = [126]) = False := eq_false (by decide)
theorem lit_45_41 : (([45] : List UInt8) = [41]) = False := eq_false (by decide)
theorem lit_126_41 : (([126] : List UInt8) = [41]) = False := eq_false (by decide)
theorem lit_40_41 : (([40] : List UInt8) = [41]) = False := eq_false (by decide)
attribute [go_sem] lit_45_40 lit_45_126 lit_126_45 lit_126_40 lit_40_45 lit_40_126 lit_45_41 lit_126_41 lit_40_41 eq_self_iff_true
set_option maxHeartbeats 2000000 in
theorem unary_step {F : Nat} (hU : UnaryOk F) (hB : BinaryOk F) : UnaryOk (F + 1) := by
  intro σ0 σ p n0 c0 L at_ nodes code d hG hv hP hd hF
  obtain ⟨ow, sz, ht⟩ := hP.toks
  obtain ⟨nv, hb, hn⟩ := hP.blk
  have hp := look_lt hb
  have ht' := look_prefix hP.pre ht
  have hle := hP.le
  have hbig := hP.big
  have hfew := hP.few
  refine cw_in Tryd.func70 rfl Tryd.ntmps70 (rs := [.tmp 4]) rfl (by kernel_rfl) (by exact Nat.le_of_ble_eq_true rfl) ?_
  by_cases hc : code = 0
  case neg =>
    simp only [go_sem, ↓reduceIte, Nat.reduceEqDiff, Nat.reduceAdd, Nat.reduceMul, Nat.reduceLT, Nat.reduceLeDiff, Int.reduceLT, Int.reduceLE, Int.reduceNeg, Int.reduceAdd, Int.reduceSub, Int.reduceMul, Int.reduceToNat, Int.reduceEq, Int.reduceNe, Int.cast_ofNat_Int, Int.natCast_one, Int.natCast_zero, Int.natCast_add, reduceCtorEq, hb, hc]
    refine (f101_ok XL hP 1 (by omega)).mono ?_
    rintro _ σ' ⟨rfl, code', hc', hps⟩
    simp only [go_sem, ↓reduceIte, Nat.reduceEqDiff, Nat.reduceAdd, Nat.reduceMul, Nat.reduceLT, Nat.reduceLeDiff, Int.reduceLT, Int.reduceLE, Int.reduceNeg, Int.reduceAdd, Int.reduceSub, Int.reduceMul, Int.reduceToNat, Int.reduceEq, Int.reduceNe, Int.cast_ofNat_Int, Int.natCast_one, Int.natCast_zero, Int.natCast_add, reduceCtorEq]
    refine ⟨fun _ => ⟨at_, nodes, code', 0, rfl, hc', hps⟩, ?_⟩
    unfold After
    split <;> exact fun h => absurd h hc
  subst hc
  by_cases hend : at_ = L.length
  · simp only [go_sem, ↓reduceIte, Nat.reduceEqDiff, Nat.reduceAdd, Nat.reduceMul, Nat.reduceLT, Nat.reduceLeDiff, Int.reduceLT, Int.reduceLE, Int.reduceNeg, Int.reduceAdd, Int.reduceSub, Int.reduceMul, Int.reduceToNat, Int.reduceEq, Int.reduceNe, Int.cast_ofNat_Int, Int.natCast_one, Int.natCast_zero, Int.natCast_add, reduceCtorEq, hb, show (at_ : Int) = (L.length : Int) by omega]
    have hP' := hP
    rw [hend] at hP'
    refine (f101_ok XL hP' 1 (by omega)).mono ?_
    rintro _ σ' ⟨rfl, code', hc', hps⟩
    simp only [go_sem, ↓reduceIte, Nat.reduceEqDiff, Nat.reduceAdd, Nat.reduceMul, Nat.reduceLT, Nat.reduceLeDiff, Int.reduceLT, Int.reduceLE, Int.reduceNeg, Int.reduceAdd, Int.reduceSub, Int.reduceMul, Int.reduceToNat, Int.reduceEq, Int.reduceNe, Int.cast_ofNat_Int, Int.natCast_one, Int.natCast_zero, Int.natCast_add, reduceCtorEq]
    refine ⟨fun h => h.elim, ?_⟩
    rw [List.drop_eq_nil_of_le (by omega), List.map_nil, pU_nil]
    exact fun _ => ⟨L.length, nodes, code', 0, rfl, hc', hps⟩
  · obtain ⟨x, hx⟩ : ∃ x, L[at_]? = some x := ⟨_, List.getElem?_eq_getElem (by omega)⟩
    have hxv := hv x (List.mem_of_getElem? hx)
    have htl := Tk.len L
    simp only [go_sem, ↓reduceIte, Nat.reduceEqDiff, Nat.reduceAdd, Nat.reduceMul, Nat.reduceLT, Nat.reduceLeDiff, Int.reduceLT, Int.reduceLE, Int.reduceNeg, Int.reduceAdd, Int.reduceSub, Int.reduceMul, Int.reduceToNat, Int.reduceEq, Int.reduceNe, Int.cast_ofNat_Int, Int.natCast_one, Int.natCast_zero, Int.natCast_add, reduceCtorEq, hb, show ¬ (at_ : Int) = (L.length : Int) by omega, show (at_ : Int) < (L.length : Int) by omega, ht', Tk.take hx, htl, show at_ * 4 + 4 ≤ L.length * 4 by omega, Tk.cells]
    (repeat (refine And.intro ?_ ?_; focus (first | (refine quiet_pre ?_; simp [List.cons_prefix_cons]; done) | (refine quiet_look ?_; kernel_rfl))))
    have hP1 := hP.grow (List.prefix_append σ [some ⟨x.cells, true, 0⟩])
    have hx1 : look (σ ++ [some ⟨x.cells, true, 0⟩]) σ.length = some ⟨x.cells, true, 0⟩ := by rw [look_app_new, look_zero]
    simp only [Tk.cells] at hP1 hx1
    have hlen : (σ ++ [some (⟨x.cells, true, 0⟩ : Blk)]).length = σ.length + 1 := by simp
    simp only [Tk.cells] at hlen
    generalize hσ1 : σ ++ [some ⟨[.int .i64 x.kind, .string (str x.text), .int .i64 x.value, .int .i64 x.at_], true, 0⟩] = σ1 at *
    clear hb hn ht'
    obtain ⟨nv, hb, hn⟩ := hP1.blk
    have hxl : σ.length < σ1.length := by omega
    have hp1 := look_lt hb
    have hne : σ.length ≠ p := by omega
    have hadd : IntKind.i64.wrap ((at_ : Int) + 1) = (at_ : Int) + 1 := wrap64 (by omega)
    have hdd : IntKind.i64.wrap ((d : Int) + 1) = (d : Int) + 1 := wrap64 (by omega)
    have hPa := hP1.put (at' := at_ + 1) (code' := 0) hb hn (by omega)
    have hxs : look (σ1.set p (some ⟨[.slice (some ⟨n0, 0, none⟩) L.length c0, .int .i64 ((at_ : Int) + 1), nv, .int .i64 0], true, 0⟩)) σ.length = some ⟨[.int .i64 x.kind, .string (str x.text), .int .i64 x.value, .int .i64 x.at_], true, 0⟩ := by
      rw [look_set hp1, if_neg hne]; exact hx1
    rw [drop_map hx]
    refine (f72_ok XL hP1).mono ?_
    rintro _ _ ⟨rfl, rfl⟩
    simp only [go_sem, ↓reduceIte, Nat.reduceEqDiff, Nat.reduceAdd, Nat.reduceMul, Nat.reduceLT, Nat.reduceLeDiff, Int.reduceLT, Int.reduceLE, Int.reduceNeg, Int.reduceAdd, Int.reduceSub, Int.reduceMul, Int.reduceToNat, Int.reduceEq, Int.reduceNe, Int.cast_ofNat_Int, Int.natCast_one, Int.natCast_zero, Int.natCast_add, reduceCtorEq, hx]
    by_cases h2 : x.kind = 2
    · simp only [go_sem, ↓reduceIte, Nat.reduceEqDiff, Nat.reduceAdd, Nat.reduceMul, Nat.reduceLT, Nat.reduceLeDiff, Int.reduceLT, Int.reduceLE, Int.reduceNeg, Int.reduceAdd, Int.reduceSub, Int.reduceMul, Int.reduceToNat, Int.reduceEq, Int.reduceNe, Int.cast_ofNat_Int, Int.natCast_one, Int.natCast_zero, Int.natCast_add, reduceCtorEq, hx1, hb, hxs, h2, hadd]
      refine (f74_ok XL hPa ⟨1, x.value, [], 0, 0⟩).mono ?_
      intro v σ' hh
      simp only [go_sem, ↓reduceIte, Nat.reduceEqDiff, Nat.reduceAdd, Nat.reduceMul, Nat.reduceLT, Nat.reduceLeDiff, Int.reduceLT, Int.reduceLE, Int.reduceNeg, Int.reduceAdd, Int.reduceSub, Int.reduceMul, Int.reduceToNat, Int.reduceEq, Int.reduceNe, Int.cast_ofNat_Int, Int.natCast_one, Int.natCast_zero, Int.natCast_add, reduceCtorEq]
      refine ⟨fun h => absurd h (by simp), ?_⟩
      rw [show cls x = .atom ⟨1, x.value, [], 0, 0⟩ by rw [cls, if_pos h2], pU_cons]
      simp only
      split at hh
      · rename_i h60
        obtain ⟨rfl, hps⟩ := hh
        rw [if_pos h60]
        exact fun _ => ⟨at_ + 1, by omega, rfl, by simp [post], hps⟩
      · rename_i h60
        obtain ⟨rfl, code', hc', hps⟩ := hh
        exact after_none (if_neg h60) ⟨_, _, _, _, rfl, hc', hps⟩
    by_cases h1 : x.kind = 1
    · simp only [go_sem, ↓reduceIte, Nat.reduceEqDiff, Nat.reduceAdd, Nat.reduceMul, Nat.reduceLT, Nat.reduceLeDiff, Int.reduceLT, Int.reduceLE, Int.reduceNeg, Int.reduceAdd, Int.reduceSub, Int.reduceMul, Int.reduceToNat, Int.reduceEq, Int.reduceNe, Int.cast_ofNat_Int, Int.natCast_one, Int.natCast_zero, Int.natCast_add, reduceCtorEq, hx1, hb, hxs, h2, h1, hadd]
      refine (f74_ok XL hPa ⟨2, 0, x.text, 0, 0⟩).mono ?_
      intro v σ' hh
      simp only [go_sem, ↓reduceIte, Nat.reduceEqDiff, Nat.reduceAdd, Nat.reduceMul, Nat.reduceLT, Nat.reduceLeDiff, Int.reduceLT, Int.reduceLE, Int.reduceNeg, Int.reduceAdd, Int.reduceSub, Int.reduceMul, Int.reduceToNat, Int.reduceEq, Int.reduceNe, Int.cast_ofNat_Int, Int.natCast_one, Int.natCast_zero, Int.natCast_add, reduceCtorEq]
      refine ⟨fun h => absurd h (by simp), ?_⟩
      rw [show cls x = .atom ⟨2, 0, x.text, 0, 0⟩ by rw [cls, if_neg h2, if_pos h1], pU_cons]
      simp only
      split at hh
      · rename_i h60
        obtain ⟨rfl, hps⟩ := hh
        rw [if_pos h60]
        exact fun _ => ⟨at_ + 1, by omega, rfl, by simp [post], hps⟩
      · rename_i h60
        obtain ⟨rfl, code', hc', hps⟩ := hh
        exact after_none (if_neg h60) ⟨_, _, _, _, rfl, hc', hps⟩
    have h3 : x.kind = 3 := by
      rcases valid_kind hxv with h | h | h
      · exact absurd h h1
      · exact absurd h h2
      · exact h.1
    have hsg : sgn x = x.text := by rw [sgn, if_pos h3]
    have hF' : 9 * (L.length - (at_ + 1)) + (7 - 0) < F := by omega
    have eqs : ∀ a b : List UInt8, (str a = str b) = (a = b) := str_eq
    by_cases q1 : x.text = [45]
    · have q2 : ¬ x.text = [126] := by rw [q1]; decide
      have q3 : ¬ x.text = [40] := by rw [q1]; decide
      by_cases hd8 : (d : Int) = 8
      · have hd8' : ¬ d < 8 := by omega
        simp only [go_sem, ↓reduceIte, Nat.reduceEqDiff, Nat.reduceAdd, Nat.reduceMul, Nat.reduceLT, Nat.reduceLeDiff, Int.reduceLT, Int.reduceLE, Int.reduceNeg, Int.reduceAdd, Int.reduceSub, Int.reduceMul, Int.reduceToNat, Int.reduceEq, Int.reduceNe, Int.cast_ofNat_Int, Int.natCast_one, Int.natCast_zero, Int.natCast_add, reduceCtorEq, hx1, hb, h2, h1, hsg, q1, q2, q3, hd8]
        refine (f101_fail hP1 10 (by omega)).mono ?_
        intro v σ' hh
        simp only [go_sem, ↓reduceIte, Nat.reduceEqDiff, Nat.reduceAdd, Nat.reduceMul, Nat.reduceLT, Nat.reduceLeDiff, Int.reduceLT, Int.reduceLE, Int.reduceNeg, Int.reduceAdd, Int.reduceSub, Int.reduceMul, Int.reduceToNat, Int.reduceEq, Int.reduceNe, Int.cast_ofNat_Int, Int.natCast_one, Int.natCast_zero, Int.natCast_add, reduceCtorEq]
        refine ⟨fun h => absurd h (by simp), after_none ?_ hh⟩
        rw [cls_minus h3 q1, pU_cons]
        simp only [Cl.un, hd8', if_false, if_true]
      have hd8' : d < 8 := by omega
      rw [cls_minus h3 q1]
      simp only [go_sem, ↓reduceIte, Nat.reduceEqDiff, Nat.reduceAdd, Nat.reduceMul, Nat.reduceLT, Nat.reduceLeDiff, Int.reduceLT, Int.reduceLE, Int.reduceNeg, Int.reduceAdd, Int.reduceSub, Int.reduceMul, Int.reduceToNat, Int.reduceEq, Int.reduceNe, Int.cast_ofNat_Int, Int.natCast_one, Int.natCast_zero, Int.natCast_add, reduceCtorEq, hx1, hb, hxs, h2, h1, hsg, q1, q2, q3, hd8, hadd, hdd]
      refine (hU (d + 1) hG hv hPa (by omega) (by omega)).mono ?_
      rintro v σ2 ⟨-, hA⟩
      rw [pU_cons]
      simp only [Cl.un, hd8']
      cases hr : pU F (d + 1) nodes.length ((L.drop (at_ + 1)).map cls) with
      | none =>
        rw [hr] at hA
        obtain ⟨a', n', c', w, rfl, hc', hps⟩ := hA rfl
        simp only [go_sem, ↓reduceIte, Nat.reduceEqDiff, Nat.reduceAdd, Nat.reduceMul, Nat.reduceLT, Nat.reduceLeDiff, Int.reduceLT, Int.reduceLE, Int.reduceNeg, Int.reduceAdd, Int.reduceSub, Int.reduceMul, Int.reduceToNat, Int.reduceEq, Int.reduceNe, Int.cast_ofNat_Int, Int.natCast_one, Int.natCast_zero, Int.natCast_add, reduceCtorEq, q1, q2, q3]
        refine (f74_fail hps hc' ⟨3, 0, [], w, 0⟩).mono ?_
        intro v σ' hh
        simp only [go_sem, ↓reduceIte, Nat.reduceEqDiff, Nat.reduceAdd, Nat.reduceMul, Nat.reduceLT, Nat.reduceLeDiff, Int.reduceLT, Int.reduceLE, Int.reduceNeg, Int.reduceAdd, Int.reduceSub, Int.reduceMul, Int.reduceToNat, Int.reduceEq, Int.reduceNe, Int.cast_ofNat_Int, Int.natCast_one, Int.natCast_zero, Int.natCast_add, reduceCtorEq]
        exact ⟨fun h => absurd h (by simp), after_none rfl hh⟩
      | some tr =>
        obtain ⟨tt, rr⟩ := tr
        rw [hr] at hA
        obtain ⟨a', hlt, rfl, rfl, hps⟩ := hA rfl
        simp only [go_sem, ↓reduceIte, Nat.reduceEqDiff, Nat.reduceAdd, Nat.reduceMul, Nat.reduceLT, Nat.reduceLeDiff, Int.reduceLT, Int.reduceLE, Int.reduceNeg, Int.reduceAdd, Int.reduceSub, Int.reduceMul, Int.reduceToNat, Int.reduceEq, Int.reduceNe, Int.cast_ofNat_Int, Int.natCast_one, Int.natCast_zero, Int.natCast_add, reduceCtorEq, q1, q2, q3]
        refine (f74_ok XL hps ⟨3, 0, [], (((post tt nodes).length : Nat) : Int) - 1, 0⟩).mono ?_
        intro v σ' hh
        simp only [go_sem, ↓reduceIte, Nat.reduceEqDiff, Nat.reduceAdd, Nat.reduceMul, Nat.reduceLT, Nat.reduceLeDiff, Int.reduceLT, Int.reduceLE, Int.reduceNeg, Int.reduceAdd, Int.reduceSub, Int.reduceMul, Int.reduceToNat, Int.reduceEq, Int.reduceNe, Int.cast_ofNat_Int, Int.natCast_one, Int.natCast_zero, Int.natCast_add, reduceCtorEq]
        refine ⟨fun h => absurd h (by simp), ?_⟩
        have hpl := post_len tt nodes
        split at hh
        · rename_i h60
          obtain ⟨rfl, hps⟩ := hh
          rw [if_pos (by omega)]
          exact fun _ => ⟨a', by omega, rfl, by simp [post], hps⟩
        · rename_i h60
          obtain ⟨rfl, code', hc', hps⟩ := hh
          exact after_none (if_neg (by omega)) ⟨_, _, _, _, rfl, hc', hps⟩
    by_cases q2 : x.text = [126]
    · have q3 : ¬ x.text = [40] := by rw [q2]; decide
      by_cases hd8 : (d : Int) = 8
      · have hd8' : ¬ d < 8 := by omega
        simp only [go_sem, ↓reduceIte, Nat.reduceEqDiff, Nat.reduceAdd, Nat.reduceMul, Nat.reduceLT, Nat.reduceLeDiff, Int.reduceLT, Int.reduceLE, Int.reduceNeg, Int.reduceAdd, Int.reduceSub, Int.reduceMul, Int.reduceToNat, Int.reduceEq, Int.reduceNe, Int.cast_ofNat_Int, Int.natCast_one, Int.natCast_zero, Int.natCast_add, reduceCtorEq, hx1, hb, h2, h1, hsg, q1, q2, q3, hd8]
        refine (f101_fail hP1 10 (by omega)).mono ?_
        intro v σ' hh
        simp only [go_sem, ↓reduceIte, Nat.reduceEqDiff, Nat.reduceAdd, Nat.reduceMul, Nat.reduceLT, Nat.reduceLeDiff, Int.reduceLT, Int.reduceLE, Int.reduceNeg, Int.reduceAdd, Int.reduceSub, Int.reduceMul, Int.reduceToNat, Int.reduceEq, Int.reduceNe, Int.cast_ofNat_Int, Int.natCast_one, Int.natCast_zero, Int.natCast_add, reduceCtorEq]
        refine ⟨fun h => absurd h (by simp), after_none ?_ hh⟩
        rw [cls_tilde h3 q2, pU_cons]
        simp only [Cl.un, hd8', if_false, if_true]
      have hd8' : d < 8 := by omega
      rw [cls_tilde h3 q2]
      simp only [go_sem, ↓reduceIte, Nat.reduceEqDiff, Nat.reduceAdd, Nat.reduceMul, Nat.reduceLT, Nat.reduceLeDiff, Int.reduceLT, Int.reduceLE, Int.reduceNeg, Int.reduceAdd, Int.reduceSub, Int.reduceMul, Int.reduceToNat, Int.reduceEq, Int.reduceNe, Int.cast_ofNat_Int, Int.natCast_one, Int.natCast_zero, Int.natCast_add, reduceCtorEq, hx1, hb, hxs, h2, h1, hsg, q1, q2, q3, hd8, hadd, hdd]
      refine (hU (d + 1) hG hv hPa (by omega) (by omega)).mono ?_
      rintro v σ2 ⟨-, hA⟩
      rw [pU_cons]
      simp only [Cl.un, hd8']
      cases hr : pU F (d + 1) nodes.length ((L.drop (at_ + 1)).map cls) with
      | none =>
        rw [hr] at hA
        obtain ⟨a', n', c', w, rfl, hc', hps⟩ := hA rfl
        simp only [go_sem, ↓reduceIte, Nat.reduceEqDiff, Nat.reduceAdd, Nat.reduceMul, Nat.reduceLT, Nat.reduceLeDiff, Int.reduceLT, Int.reduceLE, Int.reduceNeg, Int.reduceAdd, Int.reduceSub, Int.reduceMul, Int.reduceToNat, Int.reduceEq, Int.reduceNe, Int.cast_ofNat_Int, Int.natCast_one, Int.natCast_zero, Int.natCast_add, reduceCtorEq, q1, q2, q3]
        refine (f74_fail hps hc' ⟨4, 0, [], w, 0⟩).mono ?_
        intro v σ' hh
        simp only [go_sem, ↓reduceIte, Nat.reduceEqDiff, Nat.reduceAdd, Nat.reduceMul, Nat.reduceLT, Nat.reduceLeDiff, Int.reduceLT, Int.reduceLE, Int.reduceNeg, Int.reduceAdd, Int.reduceSub, Int.reduceMul, Int.reduceToNat, Int.reduceEq, Int.reduceNe, Int.cast_ofNat_Int, Int.natCast_one, Int.natCast_zero, Int.natCast_add, reduceCtorEq]
        exact ⟨fun h => absurd h (by simp), after_none rfl hh⟩
      | some tr =>
        obtain ⟨tt, rr⟩ := tr
        rw [hr] at hA
        obtain ⟨a', hlt, rfl, rfl, hps⟩ := hA rfl
        simp only [go_sem, ↓reduceIte, Nat.reduceEqDiff, Nat.reduceAdd, Nat.reduceMul, Nat.reduceLT, Nat.reduceLeDiff, Int.reduceLT, Int.reduceLE, Int.reduceNeg, Int.reduceAdd, Int.reduceSub, Int.reduceMul, Int.reduceToNat, Int.reduceEq, Int.reduceNe, Int.cast_ofNat_Int, Int.natCast_one, Int.natCast_zero, Int.natCast_add, reduceCtorEq, q1, q2, q3]
        refine (f74_ok XL hps ⟨4, 0, [], (((post tt nodes).length : Nat) : Int) - 1, 0⟩).mono ?_
        intro v σ' hh
        simp only [go_sem, ↓reduceIte, Nat.reduceEqDiff, Nat.reduceAdd, Nat.reduceMul, Nat.reduceLT, Nat.reduceLeDiff, Int.reduceLT, Int.reduceLE, Int.reduceNeg, Int.reduceAdd, Int.reduceSub, Int.reduceMul, Int.reduceToNat, Int.reduceEq, Int.reduceNe, Int.cast_ofNat_Int, Int.natCast_one, Int.natCast_zero, Int.natCast_add, reduceCtorEq]
        refine ⟨fun h => absurd h (by simp), ?_⟩
        have hpl := post_len tt nodes
        split at hh
        · rename_i h60
          obtain ⟨rfl, hps⟩ := hh
          rw [if_pos (by omega)]
          exact fun _ => ⟨a', by omega, rfl, by simp [post], hps⟩
        · rename_i h60
          obtain ⟨rfl, code', hc', hps⟩ := hh
          exact after_none (if_neg (by omega)) ⟨_, _, _, _, rfl, hc', hps⟩
    by_cases q3 : x.text = [40]
    · by_cases hd8 : (d : Int) = 8
      · have hd8' : ¬ d < 8 := by omega
        simp only [go_sem, ↓reduceIte, Nat.reduceEqDiff, Nat.reduceAdd, Nat.reduceMul, Nat.reduceLT, Nat.reduceLeDiff, Int.reduceLT, Int.reduceLE, Int.reduceNeg, Int.reduceAdd, Int.reduceSub, Int.reduceMul, Int.reduceToNat, Int.reduceEq, Int.reduceNe, Int.cast_ofNat_Int, Int.natCast_one, Int.natCast_zero, Int.natCast_add, reduceCtorEq, hx1, hb, h2, h1, hsg, q1, q2, q3, hd8]
        refine (f101_fail hP1 10 (by omega)).mono ?_
        intro v σ' hh
        simp only [go_sem, ↓reduceIte, Nat.reduceEqDiff, Nat.reduceAdd, Nat.reduceMul, Nat.reduceLT, Nat.reduceLeDiff, Int.reduceLT, Int.reduceLE, Int.reduceNeg, Int.reduceAdd, Int.reduceSub, Int.reduceMul, Int.reduceToNat, Int.reduceEq, Int.reduceNe, Int.cast_ofNat_Int, Int.natCast_one, Int.natCast_zero, Int.natCast_add, reduceCtorEq]
        refine ⟨fun h => absurd h (by simp), after_none ?_ hh⟩
        rw [cls_lp h3 q3, pU_cons]
        simp only [Cl.un, hd8', if_false, if_true]
      have hd8' : d < 8 := by omega
      simp only [go_sem, ↓reduceIte, Nat.reduceEqDiff, Nat.reduceAdd, Nat.reduceMul, Nat.reduceLT, Nat.reduceLeDiff, Int.reduceLT, Int.reduceLE, Int.reduceNeg, Int.reduceAdd, Int.reduceSub, Int.reduceMul, Int.reduceToNat, Int.reduceEq, Int.reduceNe, Int.cast_ofNat_Int, Int.natCast_one, Int.natCast_zero, Int.natCast_add, reduceCtorEq, hx1, hb, hxs, h2, h1, hsg, q1, q2, q3, hd8, hadd, hdd]
      refine (hB 0 (d + 1) (by omega) hG hv hPa (by omega) hF').mono ?_
      rintro v σ2 ⟨-, hA⟩
      rw [cls_lp h3 q3, pU_cons]
      simp only [hd8', if_true]
      cases hr : pB F 0 (d + 1) nodes.length ((L.drop (at_ + 1)).map cls) with
      | none =>
        rw [hr] at hA
        obtain ⟨a', n', c', w, rfl, hc', hps⟩ := hA rfl
        simp only [go_sem, ↓reduceIte, Nat.reduceEqDiff, Nat.reduceAdd, Nat.reduceMul, Nat.reduceLT, Nat.reduceLeDiff, Int.reduceLT, Int.reduceLE, Int.reduceNeg, Int.reduceAdd, Int.reduceSub, Int.reduceMul, Int.reduceToNat, Int.reduceEq, Int.reduceNe, Int.cast_ofNat_Int, Int.natCast_one, Int.natCast_zero, Int.natCast_add, reduceCtorEq]
        refine (f72_ok XL hps).mono ?_
        rintro _ _ ⟨rfl, rfl⟩
        rw [if_neg hc']
        simp only [go_sem, ↓reduceIte, Nat.reduceEqDiff, Nat.reduceAdd, Nat.reduceMul, Nat.reduceLT, Nat.reduceLeDiff, Int.reduceLT, Int.reduceLE, Int.reduceNeg, Int.reduceAdd, Int.reduceSub, Int.reduceMul, Int.reduceToNat, Int.reduceEq, Int.reduceNe, Int.cast_ofNat_Int, Int.natCast_one, Int.natCast_zero, Int.natCast_add, reduceCtorEq]
        refine (f101_fail hps 1 (by omega)).mono ?_
        intro v σ' hh
        simp only [go_sem, ↓reduceIte, Nat.reduceEqDiff, Nat.reduceAdd, Nat.reduceMul, Nat.reduceLT, Nat.reduceLeDiff, Int.reduceLT, Int.reduceLE, Int.reduceNeg, Int.reduceAdd, Int.reduceSub, Int.reduceMul, Int.reduceToNat, Int.reduceEq, Int.reduceNe, Int.cast_ofNat_Int, Int.natCast_one, Int.natCast_zero, Int.natCast_add, reduceCtorEq]
        exact ⟨fun h => absurd h (by simp), after_none rfl hh⟩
      | some tr =>
        obtain ⟨tt, rr⟩ := tr
        rw [hr] at hA
        obtain ⟨a', hlt, rfl, rfl, hps⟩ := hA rfl
        have hle' := hps.le
        simp only [go_sem, ↓reduceIte, Nat.reduceEqDiff, Nat.reduceAdd, Nat.reduceMul, Nat.reduceLT, Nat.reduceLeDiff, Int.reduceLT, Int.reduceLE, Int.reduceNeg, Int.reduceAdd, Int.reduceSub, Int.reduceMul, Int.reduceToNat, Int.reduceEq, Int.reduceNe, Int.cast_ofNat_Int, Int.natCast_one, Int.natCast_zero, Int.natCast_add, reduceCtorEq]
        refine (f72_ok XL hps).mono ?_
        rintro _ _ ⟨rfl, rfl⟩
        rw [if_pos rfl]
        by_cases hend2 : a' = L.length
        · rw [List.getElem?_eq_none (by omega)]
          simp only [go_sem, ↓reduceIte, Nat.reduceEqDiff, Nat.reduceAdd, Nat.reduceMul, Nat.reduceLT, Nat.reduceLeDiff, Int.reduceLT, Int.reduceLE, Int.reduceNeg, Int.reduceAdd, Int.reduceSub, Int.reduceMul, Int.reduceToNat, Int.reduceEq, Int.reduceNe, Int.cast_ofNat_Int, Int.natCast_one, Int.natCast_zero, Int.natCast_add, reduceCtorEq, Option.getD_none]
          refine (f101_fail hps 1 (by omega)).mono ?_
          intro v σ' hh
          simp only [go_sem, ↓reduceIte, Nat.reduceEqDiff, Nat.reduceAdd, Nat.reduceMul, Nat.reduceLT, Nat.reduceLeDiff, Int.reduceLT, Int.reduceLE, Int.reduceNeg, Int.reduceAdd, Int.reduceSub, Int.reduceMul, Int.reduceToNat, Int.reduceEq, Int.reduceNe, Int.cast_ofNat_Int, Int.natCast_one, Int.natCast_zero, Int.natCast_add, reduceCtorEq]
          refine ⟨fun h => absurd h (by simp), after_none ?_ hh⟩
          rw [List.drop_eq_nil_of_le (by omega)]
          rfl
        · obtain ⟨y, hy⟩ : ∃ y, L[a']? = some y := ⟨_, List.getElem?_eq_getElem (by omega)⟩
          have hyv := hv y (List.mem_of_getElem? hy)
          have hrp := cls_rp hyv
          rw [hy, drop_map hy]
          simp only [go_sem, ↓reduceIte, Nat.reduceEqDiff, Nat.reduceAdd, Nat.reduceMul, Nat.reduceLT, Nat.reduceLeDiff, Int.reduceLT, Int.reduceLE, Int.reduceNeg, Int.reduceAdd, Int.reduceSub, Int.reduceMul, Int.reduceToNat, Int.reduceEq, Int.reduceNe, Int.cast_ofNat_Int, Int.natCast_one, Int.natCast_zero, Int.natCast_add, reduceCtorEq]
          by_cases q4 : sgn y = [41]
          · obtain ⟨nv2, hb2, hn2⟩ := hps.blk
            have hadd2 : IntKind.i64.wrap ((a' : Int) + 1) = (a' : Int) + 1 := wrap64 (by omega)
            simp only [go_sem, ↓reduceIte, Nat.reduceEqDiff, Nat.reduceAdd, Nat.reduceMul, Nat.reduceLT, Nat.reduceLeDiff, Int.reduceLT, Int.reduceLE, Int.reduceNeg, Int.reduceAdd, Int.reduceSub, Int.reduceMul, Int.reduceToNat, Int.reduceEq, Int.reduceNe, Int.cast_ofNat_Int, Int.natCast_one, Int.natCast_zero, Int.natCast_add, reduceCtorEq, q4, hb2, hadd2]
            refine ⟨fun h => absurd h (by simp), ?_⟩
            rw [hrp.1 q4]
            exact fun _ => ⟨a' + 1, by omega, rfl, rfl, hps.put (at' := a' + 1) hb2 hn2 (by omega)⟩
          · simp only [go_sem, ↓reduceIte, Nat.reduceEqDiff, Nat.reduceAdd, Nat.reduceMul, Nat.reduceLT, Nat.reduceLeDiff, Int.reduceLT, Int.reduceLE, Int.reduceNeg, Int.reduceAdd, Int.reduceSub, Int.reduceMul, Int.reduceToNat, Int.reduceEq, Int.reduceNe, Int.cast_ofNat_Int, Int.natCast_one, Int.natCast_zero, Int.natCast_add, reduceCtorEq, q4]
            refine (f101_fail hps 1 (by omega)).mono ?_
            intro v σ' hh
            simp only [go_sem, ↓reduceIte, Nat.reduceEqDiff, Nat.reduceAdd, Nat.reduceMul, Nat.reduceLT, Nat.reduceLeDiff, Int.reduceLT, Int.reduceLE, Int.reduceNeg, Int.reduceAdd, Int.reduceSub, Int.reduceMul, Int.reduceToNat, Int.reduceEq, Int.reduceNe, Int.cast_ofNat_Int, Int.natCast_one, Int.natCast_zero, Int.natCast_add, reduceCtorEq]
            refine ⟨fun h => absurd h (by simp), after_none ?_ hh⟩
            have hnr : cls y ≠ .rp := fun h => q4 (hrp.2 h)
            cases hcy : cls y <;> first | rfl | exact absurd hcy hnr
    · simp only [go_sem, ↓reduceIte, Nat.reduceEqDiff, Nat.reduceAdd, Nat.reduceMul, Nat.reduceLT, Nat.reduceLeDiff, Int.reduceLT, Int.reduceLE, Int.reduceNeg, Int.reduceAdd, Int.reduceSub, Int.reduceMul, Int.reduceToNat, Int.reduceEq, Int.reduceNe, Int.cast_ofNat_Int, Int.natCast_one, Int.natCast_zero, Int.natCast_add, reduceCtorEq, hx1, hb, h2, h1, hsg, q1, q2, q3]
      refine (f101_fail hP1 1 (by omega)).mono ?_
      intro v σ' hh
      simp only [go_sem, ↓reduceIte, Nat.reduceEqDiff, Nat.reduceAdd, Nat.reduceMul, Nat.reduceLT, Nat.reduceLeDiff, Int.reduceLT, Int.reduceLE, Int.reduceNeg, Int.reduceAdd, Int.reduceSub, Int.reduceMul, Int.reduceToNat, Int.reduceEq, Int.reduceNe, Int.cast_ofNat_Int, Int.natCast_one, Int.natCast_zero, Int.natCast_add, reduceCtorEq]
      exact ⟨fun h => absurd h (by simp), after_none (pU_other h3 q1 q2 q3 _ _ _ _) hh⟩

set_option maxHeartbeats 2000000 in
theorem binary_step {F : Nat} (hU : UnaryOk F) (hB : BinaryOk F) : BinaryOk (F + 1) := by
  intro σ0 σ p n0 c0 L at_ nodes code k d hk hG hv hP hd hF
  have hle := hP.le
  have hbig := hP.big
  have hml : mu k ((L.drop at_).map cls) < F + 1 := by
    unfold mu
    simp
    omega
  refine cw_in Tryd.func47 rfl Tryd.ntmps47 (rs := [.tmp 6]) rfl (by kernel_rfl) (by exact Nat.le_of_ble_eq_true rfl) ?_
  by_cases h6 : k = 6
  · subst h6
    simp only [go_sem, ↓reduceIte, Nat.reduceEqDiff, Nat.reduceAdd, Nat.reduceMul, Nat.reduceLT, Nat.reduceLeDiff, Int.reduceLT, Int.reduceLE, Int.reduceNeg, Int.reduceAdd, Int.reduceSub, Int.reduceMul, Int.reduceToNat, Int.reduceEq, Int.reduceNe, Int.cast_ofNat_Int, Int.natCast_one, Int.natCast_zero, Int.natCast_add, reduceCtorEq]
    refine (hU d hG hv hP hd (by omega)).mono ?_
    intro v σ' hh
    simp only [go_sem, ↓reduceIte, Nat.reduceEqDiff, Nat.reduceAdd, Nat.reduceMul, Nat.reduceLT, Nat.reduceLeDiff, Int.reduceLT, Int.reduceLE, Int.reduceNeg, Int.reduceAdd, Int.reduceSub, Int.reduceMul, Int.reduceToNat, Int.reduceEq, Int.reduceNe, Int.cast_ofNat_Int, Int.natCast_one, Int.natCast_zero, Int.natCast_add, reduceCtorEq]
    rw [pB_eq, if_neg (by omega)]
    exact hh
  · have hk6 : k < 6 := by omega
    have hkk : IntKind.i64.wrap ((k : Int) + 1) = (k : Int) + 1 := wrap64 (by omega)
    simp only [go_sem, ↓reduceIte, Nat.reduceEqDiff, Nat.reduceAdd, Nat.reduceMul, Nat.reduceLT, Nat.reduceLeDiff, Int.reduceLT, Int.reduceLE, Int.reduceNeg, Int.reduceAdd, Int.reduceSub, Int.reduceMul, Int.reduceToNat, Int.reduceEq, Int.reduceNe, Int.cast_ofNat_Int, Int.natCast_one, Int.natCast_zero, Int.natCast_add, reduceCtorEq, show ¬ (k : Int) = 6 by omega, hkk]
    refine (hB (k + 1) d (by omega) hG hv hP hd (by omega)).mono ?_
    intro v1 σ1 ⟨hA0, hA⟩
    obtain ⟨F1, rfl⟩ : ∃ F1, F = F1 + 1 := ⟨F - 1, by omega⟩
    have init : ∃ (at' : Nat) (nodes' : List Nd) (code' w : Int), v1 = .int .i64 w ∧ Ps σ0 σ1 p n0 c0 L at' nodes' code' ∧
        (code' = 0 → code = 0 ∧ at_ < at' ∧ ∃ t, nodes' = post t nodes ∧ w = (nodes'.length : Int) - 1 ∧ pB (F1 + 1 + 1) k d nodes.length ((L.drop at_).map cls) = pL (F1 + 1) k d nodes.length t ((L.drop at').map cls)) ∧
        (code' ≠ 0 → code = 0 → pB (F1 + 1 + 1) k d nodes.length ((L.drop at_).map cls) = none) := by
      by_cases hc : code = 0
      · subst hc
        unfold After at hA
        split at hA
        · rename_i t r hr
          obtain ⟨a', hlt, rfl, rfl, hps⟩ := hA rfl
          exact ⟨a', _, 0, _, rfl, hps, fun _ => ⟨rfl, hlt, t, rfl, rfl, by rw [pB_eq, if_pos hk6, hr]⟩, fun h => absurd rfl h⟩
        · rename_i hr
          obtain ⟨a', n', c', w, rfl, hc', hps⟩ := hA rfl
          exact ⟨a', n', c', w, rfl, hps, fun h => absurd h hc', fun _ _ => by rw [pB_eq, if_pos hk6, hr]⟩
      · obtain ⟨a', n', c', w, rfl, hc', hps⟩ := hA0 hc
        exact ⟨a', n', c', w, rfl, hps, fun h => absurd h hc', fun _ h => absurd h hc⟩
    generalize hRES : pB (F1 + 1 + 1) k d nodes.length ((L.drop at_).map cls) = RES at init ⊢
    clear hA hA0 hRES
    obtain ⟨a0, nn0, cc0, w0, rfl, hps0, hi1, hi2⟩ := init
    simp only [go_sem, ↓reduceIte, Nat.reduceEqDiff, Nat.reduceAdd, Nat.reduceMul, Nat.reduceLT, Nat.reduceLeDiff, Int.reduceLT, Int.reduceLE, Int.reduceNeg, Int.reduceAdd, Int.reduceSub, Int.reduceMul, Int.reduceToNat, Int.reduceEq, Int.reduceNe, Int.cast_ofNat_Int, Int.natCast_one, Int.natCast_zero, Int.natCast_add, reduceCtorEq]
    refine LW_run (fun m T ρ => ∃ (at' : Nat) (nodes' : List Nd) (code' w : Int), Ps σ0 ρ p n0 c0 L at' nodes' code' ∧ T 0 = .pointer (some ⟨p, 0, none⟩) ∧ T 1 = .int .i64 k ∧ T 2 = .int .i64 d ∧ T 7 = .int .i64 w ∧
        (code' = 0 → code = 0 ∧ at_ < at' ∧ ∃ t, nodes' = post t nodes ∧ w = (nodes'.length : Int) - 1 ∧ RES = pL (F1 + 1) k d nodes.length t ((L.drop at').map cls)) ∧ (code' ≠ 0 → code = 0 → RES = none) ∧ m = if code' = 0 then L.length - at' + 1 else 0)
      (if cc0 = 0 then L.length - a0 + 1 else 0) ⟨a0, nn0, cc0, w0, hps0, rfl, rfl, rfl, rfl, hi1, hi2, rfl⟩ ?_
    rintro m T ρ ⟨a', n', c', w, hps, t0, t1, t2, t7, h1, h2, rfl⟩
    have hGr := hG.mono hps.pre
    obtain ⟨N, ⟨sz0, g0⟩, gN⟩ := hGr
    obtain ⟨oN, sN, gk⟩ := gN k hk6
    have hgk : (gcells N)[k]? = some (.slice (some ⟨N k, 0, none⟩) (lvls k).length ((lvls k).length + 1)) := by
      rw [gcells, List.getElem?_map, List.getElem?_range hk6]
      rfl
    have hll : (lvls k).length ≤ 1000000 := by
      have : ∀ k : Fin 6, (lvls k.val).length ≤ 1000000 := by decide
      exact this ⟨k, hk6⟩
    have hle' := hps.le
    simp only [go_sem, ↓reduceIte, Nat.reduceEqDiff, Nat.reduceAdd, Nat.reduceMul, Nat.reduceLT, Nat.reduceLeDiff, Int.reduceLT, Int.reduceLE, Int.reduceNeg, Int.reduceAdd, Int.reduceSub, Int.reduceMul, Int.reduceToNat, Int.reduceEq, Int.reduceNe, Int.cast_ofNat_Int, Int.natCast_one, Int.natCast_zero, Int.natCast_add, reduceCtorEq, t0, t1, t2, t7, show 0 ≤ (k : Int) by omega, show (k : Int) < 6 by omega, g0, hgk]
    refine (f72_ok XL hps).mono ?_
    rintro _ _ ⟨rfl, rfl⟩
    simp only [go_sem, ↓reduceIte, Nat.reduceEqDiff, Nat.reduceAdd, Nat.reduceMul, Nat.reduceLT, Nat.reduceLeDiff, Int.reduceLT, Int.reduceLE, Int.reduceNeg, Int.reduceAdd, Int.reduceSub, Int.reduceMul, Int.reduceToNat, Int.reduceEq, Int.reduceNe, Int.cast_ofNat_Int, Int.natCast_one, Int.natCast_zero, Int.natCast_add, reduceCtorEq, t0, t1, t2, t7]
    refine (f71_ok XL (lvls k) _ (N k) _ _ oN sN _ gk rfl hll).mono ?_
    rintro _ _ ⟨rfl, rfl⟩
    simp only [go_sem, ↓reduceIte, Nat.reduceEqDiff, Nat.reduceAdd, Nat.reduceMul, Nat.reduceLT, Nat.reduceLeDiff, Int.reduceLT, Int.reduceLE, Int.reduceNeg, Int.reduceAdd, Int.reduceSub, Int.reduceMul, Int.reduceToNat, Int.reduceEq, Int.reduceNe, Int.cast_ofNat_Int, Int.natCast_one, Int.natCast_zero, Int.natCast_add, reduceCtorEq, t0, t1, t2, t7]
    by_cases hin : (if c' = 0 then (L[a']?.map sgn).getD [] else []) ∈ lvls k
    · have hc0 : c' = 0 := by
        by_cases h : c' = 0
        · exact h
        · rw [if_neg h] at hin
          exact absurd hin (nil_lvls k)
      subst hc0
      rw [if_pos rfl] at hin
      obtain ⟨rfl, hlt, t, rfl, rfl, hR⟩ := h1 rfl
      have hal : a' < L.length := by
        rcases Nat.lt_or_ge a' L.length with h | h
        · exact h
        · rw [List.getElem?_eq_none h] at hin
          exact absurd hin (nil_lvls k)
      obtain ⟨y, hy⟩ : ∃ y, L[a']? = some y := ⟨_, List.getElem?_eq_getElem hal⟩
      have hyv := hv y (List.mem_of_getElem? hy)
      rw [hy] at hin
      have hin' : sgn y ∈ lvls k := hin
      have hlv := (cls_lvl hyv hk6).1 hin'
      have hkd := cls_kind hyv (by omega)
      have hpl := post_len t nodes
      rw [drop_map hy, pL_cons, if_pos hlv, hkd] at hR
      simp only [go_sem, ↓reduceIte, Nat.reduceEqDiff, Nat.reduceAdd, Nat.reduceMul, Nat.reduceLT, Nat.reduceLeDiff, Int.reduceLT, Int.reduceLE, Int.reduceNeg, Int.reduceAdd, Int.reduceSub, Int.reduceMul, Int.reduceToNat, Int.reduceEq, Int.reduceNe, Int.cast_ofNat_Int, Int.natCast_one, Int.natCast_zero, Int.natCast_add, reduceCtorEq, t0, t1, t2, t7, hy, hin', Option.getD_some]
      refine (f72_ok XL hps).mono ?_
      rintro _ _ ⟨rfl, rfl⟩
      simp only [go_sem, ↓reduceIte, Nat.reduceEqDiff, Nat.reduceAdd, Nat.reduceMul, Nat.reduceLT, Nat.reduceLeDiff, Int.reduceLT, Int.reduceLE, Int.reduceNeg, Int.reduceAdd, Int.reduceSub, Int.reduceMul, Int.reduceToNat, Int.reduceEq, Int.reduceNe, Int.cast_ofNat_Int, Int.natCast_one, Int.natCast_zero, Int.natCast_add, reduceCtorEq, t0, t1, t2, t7, hy, Option.getD_some]
      refine (f73_ok XL (sgn y) _).mono ?_
      rintro _ ρ1 ⟨rfl, hp1⟩
      have hps1 := hps.grow hp1
      obtain ⟨nv, hb, hn⟩ := hps1.blk
      have hadd : IntKind.i64.wrap ((a' : Int) + 1) = (a' : Int) + 1 := wrap64 (by omega)
      have hPa := hps1.put (at' := a' + 1) (code' := 0) hb hn (by omega)
      simp only [go_sem, ↓reduceIte, Nat.reduceEqDiff, Nat.reduceAdd, Nat.reduceMul, Nat.reduceLT, Nat.reduceLeDiff, Int.reduceLT, Int.reduceLE, Int.reduceNeg, Int.reduceAdd, Int.reduceSub, Int.reduceMul, Int.reduceToNat, Int.reduceEq, Int.reduceNe, Int.cast_ofNat_Int, Int.natCast_one, Int.natCast_zero, Int.natCast_add, reduceCtorEq, t0, t1, t2, t7, hb, hadd, hkk]
      refine (hB (k + 1) d (by omega) hG hv hPa hd (by omega)).mono ?_
      rintro v σ2 ⟨-, hA⟩
      have hfu : pB (F1 + 1) (k + 1) d (post t nodes).length ((L.drop (a' + 1)).map cls) = pB F1 (k + 1) d (nodes.length + t.size) ((L.drop (a' + 1)).map cls) := by
        rw [hpl]
        exact fuelB' (by omega) (by unfold mu; simp; omega) (by unfold mu; simp; omega)
      rw [hfu] at hA
      cases hr : pB F1 (k + 1) d (nodes.length + t.size) ((L.drop (a' + 1)).map cls) with
      | none =>
        rw [hr] at hA hR
        obtain ⟨a2, n2, c2, w2, rfl, hc2, hps2⟩ := hA rfl
        simp only [go_sem, ↓reduceIte, Nat.reduceEqDiff, Nat.reduceAdd, Nat.reduceMul, Nat.reduceLT, Nat.reduceLeDiff, Int.reduceLT, Int.reduceLE, Int.reduceNeg, Int.reduceAdd, Int.reduceSub, Int.reduceMul, Int.reduceToNat, Int.reduceEq, Int.reduceNe, Int.cast_ofNat_Int, Int.natCast_one, Int.natCast_zero, Int.natCast_add, reduceCtorEq, t0, t1, t2, t7]
        refine (f74_fail hps2 hc2 ⟨5 + idx ops (sgn y), 0, [], (((post t nodes).length : Nat) : Int) - 1, w2⟩).mono ?_
        intro v σ' hh
        obtain ⟨a3, n3, c3, w3, rfl, hc3, hps3⟩ := hh
        simp only [go_sem, ↓reduceIte, Nat.reduceEqDiff, Nat.reduceAdd, Nat.reduceMul, Nat.reduceLT, Nat.reduceLeDiff, Int.reduceLT, Int.reduceLE, Int.reduceNeg, Int.reduceAdd, Int.reduceSub, Int.reduceMul, Int.reduceToNat, Int.reduceEq, Int.reduceNe, Int.cast_ofNat_Int, Int.natCast_one, Int.natCast_zero, Int.natCast_add, reduceCtorEq, t0, t1, t2, t7]
        exact ⟨0, by omega, a3, n3, c3, w3, hps3, rfl, fun h => absurd h hc3, fun _ _ => hR, by rw [if_neg hc3]⟩
      | some tr =>
        obtain ⟨t2', r2⟩ := tr
        rw [hr] at hA hR
        obtain ⟨a2, hlt2, rfl, rfl, hps2⟩ := hA rfl
        have hpl2 := post_len t2' (post t nodes)
        have hle2 := hps2.le
        simp only [go_sem, ↓reduceIte, Nat.reduceEqDiff, Nat.reduceAdd, Nat.reduceMul, Nat.reduceLT, Nat.reduceLeDiff, Int.reduceLT, Int.reduceLE, Int.reduceNeg, Int.reduceAdd, Int.reduceSub, Int.reduceMul, Int.reduceToNat, Int.reduceEq, Int.reduceNe, Int.cast_ofNat_Int, Int.natCast_one, Int.natCast_zero, Int.natCast_add, reduceCtorEq, t0, t1, t2, t7]
        refine (f74_ok XL hps2 ⟨5 + idx ops (sgn y), 0, [], (((post t nodes).length : Nat) : Int) - 1, (((post t2' (post t nodes)).length : Nat) : Int) - 1⟩).mono ?_
        intro v σ' hh
        simp only at hR
        split at hh
        · rename_i h60
          obtain ⟨rfl, hps3⟩ := hh
          rw [if_pos (by omega)] at hR
          simp only [go_sem, ↓reduceIte, Nat.reduceEqDiff, Nat.reduceAdd, Nat.reduceMul, Nat.reduceLT, Nat.reduceLeDiff, Int.reduceLT, Int.reduceLE, Int.reduceNeg, Int.reduceAdd, Int.reduceSub, Int.reduceMul, Int.reduceToNat, Int.reduceEq, Int.reduceNe, Int.cast_ofNat_Int, Int.natCast_one, Int.natCast_zero, Int.natCast_add, reduceCtorEq, t0, t1, t2, t7]
          refine ⟨L.length - a2 + 1, by omega, a2, _, 0, _, hps3, rfl, fun _ => ⟨by omega, .bin (5 + idx ops (sgn y)) t t2', rfl, by simp, ?_⟩, fun h => absurd rfl h, by rw [if_pos rfl]⟩
          rw [hR]
          exact fuelL' hk6 (by simp; omega) (by simp; omega)
        · rename_i h60
          obtain ⟨rfl, code', hc', hps3⟩ := hh
          rw [if_neg (by omega)] at hR
          simp only [go_sem, ↓reduceIte, Nat.reduceEqDiff, Nat.reduceAdd, Nat.reduceMul, Nat.reduceLT, Nat.reduceLeDiff, Int.reduceLT, Int.reduceLE, Int.reduceNeg, Int.reduceAdd, Int.reduceSub, Int.reduceMul, Int.reduceToNat, Int.reduceEq, Int.reduceNe, Int.cast_ofNat_Int, Int.natCast_one, Int.natCast_zero, Int.natCast_add, reduceCtorEq, t0, t1, t2, t7]
          exact ⟨0, by omega, a2, _, code', 0, hps3, rfl, fun h => absurd h hc', fun _ _ => hR, by rw [if_neg hc']⟩
    · simp only [go_sem, ↓reduceIte, Nat.reduceEqDiff, Nat.reduceAdd, Nat.reduceMul, Nat.reduceLT, Nat.reduceLeDiff, Int.reduceLT, Int.reduceLE, Int.reduceNeg, Int.reduceAdd, Int.reduceSub, Int.reduceMul, Int.reduceToNat, Int.reduceEq, Int.reduceNe, Int.cast_ofNat_Int, Int.natCast_one, Int.natCast_zero, Int.natCast_add, reduceCtorEq, t0, t1, t2, t7, hin]
      by_cases hc : c' = 0
      · subst hc
        obtain ⟨rfl, hlt, t, rfl, rfl, hR⟩ := h1 rfl
        refine ⟨fun h => absurd h (by simp), ?_⟩
        have hR2 : RES = some (t, (L.drop a').map cls) := by
          rw [hR]
          by_cases hal : a' < L.length
          · obtain ⟨y, hy⟩ : ∃ y, L[a']? = some y := ⟨_, List.getElem?_eq_getElem hal⟩
            have hyv := hv y (List.mem_of_getElem? hy)
            rw [hy] at hin
            have hlv : ¬ (cls y).lvl = k + 1 := fun h => hin ((cls_lvl hyv hk6).2 h)
            rw [drop_map hy, pL_cons, if_neg hlv]
          · rw [List.drop_eq_nil_of_le (by omega), List.map_nil, pL_nil]
        rw [hR2]
        exact fun _ => ⟨a', hlt, rfl, rfl, hps⟩
      · refine ⟨fun _ => ⟨a', n', c', w, rfl, hc, hps⟩, ?_⟩
        by_cases hc2 : code = 0
        · subst hc2
          exact after_none (h2 hc rfl) ⟨a', n', c', w, rfl, hc, hps⟩
        · unfold After
          split <;> exact fun h => absurd h hc2
theorem parse_all (F : Nat) : UnaryOk F ∧ BinaryOk F := by
  induction F with
  | zero => exact ⟨fun _ _ _ _ _ h => absurd h (by omega), fun _ _ _ _ _ _ _ h => absurd h (by omega)⟩
  | succ F ih => exact ⟨unary_step ih.1 ih.2, binary_step ih.1 ih.2⟩
end Go.Proofs.YtkgdkommahgakaaDoor.Abs

namespace Go.Proofs.YtkgdkommahgakaaDoor.Abs
open Go Go.RowKit Gram
set_option linter.unusedVariables false
set_option linter.unusedSimpArgs false
set_option maxRecDepth 100000

def faultV (f : Int × Int) : Value := .agg [.int .i64 f.1, .int .i64 f.2].toArray
/-- The first token that is none. -/
def badTok (L : List Tk) : Option Nat := L.findIdx? fun x => !validT x
theorem bad_hit {L : List Tk} {i : Nat} {x : Tk} (hx : L[i]? = some x) (hv : ∀ y ∈ L.take i, validT y = true) (h : validT x = false) : badTok L = some i := by
  unfold badTok
  rw [List.findIdx?_eq_some_iff_getElem]
  obtain ⟨hi, rfl⟩ := List.getElem?_eq_some_iff.1 hx
  refine ⟨hi, by simp [h], fun j hj => ?_⟩
  have : L[j] ∈ L.take i := List.mem_take_iff_getElem.2 ⟨j, by omega, rfl⟩
  simp [hv _ this]
theorem bad_none {L : List Tk} (hv : ∀ y ∈ L, validT y = true) : badTok L = none := by
  unfold badTok
  rw [List.findIdx?_eq_none_iff]
  intro x hx
  simp [hv x hx]
theorem take_valid {L : List Tk} {i : Nat} {x : Tk} (hx : L[i]? = some x) (hv : ∀ y ∈ L.take i, validT y = true) (h : validT x = true) : ∀ y ∈ L.take (i + 1), validT y = true := by
  intro y hy
  rw [List.take_add_one, hx] at hy
  rcases List.mem_append.1 hy with hy | hy
  · exact hv y hy
  · simp at hy; subst hy; exact h
def fuelOf (L : List Tk) : Nat := 9 * L.length + 8
def parseOf (L : List Tk) : Option (Tr Nd) := match pB (fuelOf L) 0 0 0 (L.map cls) with
  | some (t, []) => some t
  | _ => none
/-- What Parse hands back. -/
def ParseV (L : List Tk) (b : Nat) (v : Value) (σ' : Heap) : Prop :=
  match badTok L with
  | some i => v = .tuple #[.slice none 0 0, faultV (5, i)]
  | none => match parseOf L with
    | some t => ∃ q c, v = .tuple #[.slice (some ⟨q, 0, none⟩) t.size c, faultV (0, 0)] ∧ b ≤ q ∧ look σ' q = some ⟨(post t []).flatMap Nd.cells, true, 5⟩
    | none => ∃ cd i : Int, v = .tuple #[.slice none 0 0, faultV (cd, i)] ∧ cd ≠ 0 ∧ 0 ≤ i ∧ i ≤ L.length

set_option maxHeartbeats 2000000 in
theorem f18_ok (L : List Tk) (n c : Nat) (ow : Bool) (sz : Nat) (σ : Heap) (hl : look σ n = some ⟨L.flatMap Tk.cells, ow, sz⟩) (hG : GL σ) (hz : L.length * 40 ≤ 140737488400000) (ht : ∀ x ∈ L, x.text.length ≤ 140737488351232) :
    CW Tryd.prog XL 18 [.slice (some ⟨n, 0, none⟩) L.length c] σ fun v σ' => ParseV L σ.length v σ' ∧ σ <+: σ' := by
  refine cw_in Tryd.func18 rfl Tryd.ntmps18 (rs := [.tmp 2, .cell 3 26]) rfl (by kernel_rfl) (by exact Nat.le_of_ble_eq_true rfl) ?_
  have hn : n < σ.length := look_lt hl
  have htl := Tk.len L
  simp only [go_sem, ↓reduceIte, Nat.reduceEqDiff, Nat.reduceAdd, Nat.reduceMul, Nat.reduceLT, Nat.reduceLeDiff, Int.reduceLT, Int.reduceLE, Int.reduceNeg, Int.reduceAdd, Int.reduceSub, Int.reduceMul, Int.reduceToNat, Int.reduceEq, Int.reduceNe, Int.cast_ofNat_Int, Int.natCast_one, Int.natCast_zero, Int.natCast_add, reduceCtorEq]
  refine LW_run (fun k T ρ => ∃ (i : Nat) (τ : Heap), i + k = L.length ∧ ρ = σ ++ some ⟨[.int .i64 0, .int .i64 0], true, 0⟩ :: τ ∧ T 0 = .slice (some ⟨n, 0, none⟩) L.length c ∧ T 3 = .pointer (some ⟨σ.length, 0, none⟩) ∧ T 7 = .slice (some ⟨n, 0, none⟩) L.length c ∧ T 8 = .int .i64 L.length ∧ T 9 = .int .i64 i ∧ T 2 = .slice none 0 0
      ∧ ∀ y ∈ L.take i, validT y = true) L.length ⟨0, [], by simp, rfl, rfl, rfl, rfl, rfl, rfl, rfl, by simp⟩ ?_
  rintro k T _ ⟨i, τ, hk, rfl, t0, t3, t7, t8, t9, t2, hv⟩
  simp only [go_sem, ↓reduceIte, Nat.reduceEqDiff, Nat.reduceAdd, Nat.reduceMul, Nat.reduceLT, Nat.reduceLeDiff, Int.reduceLT, Int.reduceLE, Int.reduceNeg, Int.reduceAdd, Int.reduceSub, Int.reduceMul, Int.reduceToNat, Int.reduceEq, Int.reduceNe, Int.cast_ofNat_Int, Int.natCast_one, Int.natCast_zero, Int.natCast_add, reduceCtorEq, t0, t2, t3, t7, t8, t9]
  refine fork_dec (fun _ => ?_) (fun _ => ?_)
  · rename_i hi
    obtain ⟨x, hx⟩ : ∃ x, L[i]? = some x := ⟨_, List.getElem?_eq_getElem (by omega)⟩
    have hw : IntKind.i64.wrap ((i : Int) + 1) = (i : Int) + 1 := wrap64 (by omega)
    simp only [go_sem, ↓reduceIte, Nat.reduceEqDiff, Nat.reduceAdd, Nat.reduceMul, Nat.reduceLT, Nat.reduceLeDiff, Int.reduceLT, Int.reduceLE, Int.reduceNeg, Int.reduceAdd, Int.reduceSub, Int.reduceMul, Int.reduceToNat, Int.reduceEq, Int.reduceNe, Int.cast_ofNat_Int, Int.natCast_one, Int.natCast_zero, Int.natCast_add, reduceCtorEq, t0, t2, t3, t7, t8, t9, hi, look_app_lt hn, hl, Tk.take hx, htl, show i * 4 + 4 ≤ L.length * 4 by omega, Tk.cells]
    refine (f46_ok x (ht x (List.mem_of_getElem? hx)) _).mono ?_
    rintro _ _ ⟨rfl, τ2, rfl⟩
    cases hvx : validT x with
    | false =>
      simp only [go_sem, ↓reduceIte, Nat.reduceEqDiff, Nat.reduceAdd, Nat.reduceMul, Nat.reduceLT, Nat.reduceLeDiff, Int.reduceLT, Int.reduceLE, Int.reduceNeg, Int.reduceAdd, Int.reduceSub, Int.reduceMul, Int.reduceToNat, Int.reduceEq, Int.reduceNe, Int.cast_ofNat_Int, Int.natCast_one, Int.natCast_zero, Int.natCast_add, reduceCtorEq, t0, t2, t3, t7, t8, t9]
      refine ⟨?_, List.prefix_append _ _⟩
      rw [ParseV, bad_hit hx hv hvx]
      rfl
    | true =>
      simp only [go_sem, ↓reduceIte, Nat.reduceEqDiff, Nat.reduceAdd, Nat.reduceMul, Nat.reduceLT, Nat.reduceLeDiff, Int.reduceLT, Int.reduceLE, Int.reduceNeg, Int.reduceAdd, Int.reduceSub, Int.reduceMul, Int.reduceToNat, Int.reduceEq, Int.reduceNe, Int.cast_ofNat_Int, Int.natCast_one, Int.natCast_zero, Int.natCast_add, reduceCtorEq, t0, t2, t3, t7, t8, t9, hw]
      refine ⟨k - 1, by omega, i + 1, _, by omega, rfl, ?_⟩
      (repeat' (first | exact rfl | apply And.intro))
      exact take_valid hx hv hvx
  · rename_i hi
    have hii : i = L.length := by omega
    subst hii
    rw [List.take_length] at hv
    simp only [go_sem, ↓reduceIte, Nat.reduceEqDiff, Nat.reduceAdd, Nat.reduceMul, Nat.reduceLT, Nat.reduceLeDiff, Int.reduceLT, Int.reduceLE, Int.reduceNeg, Int.reduceAdd, Int.reduceSub, Int.reduceMul, Int.reduceToNat, Int.reduceEq, Int.reduceNe, Int.cast_ofNat_Int, Int.natCast_one, Int.natCast_zero, Int.natCast_add, reduceCtorEq, t0, t2, t3, t7, t8, t9, hi]
    obtain ⟨σ1, hσ1⟩ : ∃ σ1, σ1 = σ ++ some (⟨[.int .i64 0, .int .i64 0], true, 0⟩ : Blk) :: τ := ⟨_, rfl⟩
    have hp1 : σ <+: σ1 := hσ1 ▸ List.prefix_append _ _
    have hf1 : look σ1 σ.length = some ⟨[.int .i64 0, .int .i64 0], true, 0⟩ := by rw [hσ1, look_app_new, look_zero]
    have hlen1 : σ.length + (τ.length + 1) = σ1.length := by rw [hσ1]; simp
    have hσ2 : σ ++ some (⟨[.int .i64 0, .int .i64 0], true, 0⟩ : Blk) :: (τ ++ [some ⟨[.slice (some ⟨n, 0, none⟩) L.length c, .int .i64 0, .slice none 0 0, .int .i64 0], true, 0⟩]) = σ1 ++ [some ⟨[.slice (some ⟨n, 0, none⟩) L.length c, .int .i64 0, .slice none 0 0, .int .i64 0], true, 0⟩] := by rw [hσ1]; simp
    rw [hσ2, hlen1]
    clear hσ1 hσ2 hlen1
    have hl1 := look_prefix hp1 hl
    have hlt1 := look_lt hf1
    have hP : Ps σ1 (σ1 ++ [some ⟨[.slice (some ⟨n, 0, none⟩) L.length c, .int .i64 0, .slice none 0 0, .int .i64 0], true, 0⟩]) σ1.length n c L 0 [] 0 :=
      ⟨List.prefix_append _ _, Nat.le_refl _, ⟨ow, sz, hl1⟩, Nat.zero_le _, hz, by simp, _, by rw [look_app_new, look_zero]; rfl, .inl ⟨rfl, rfl⟩⟩
    refine ((parse_all (fuelOf L)).2 0 0 (by omega) (hG.mono hp1) hv hP (by omega) (by unfold fuelOf; omega)).mono ?_
    rintro v σ2 ⟨-, hA⟩
    rw [List.drop_zero, List.length_nil] at hA
    have hpar : parseOf L = match pB (fuelOf L) 0 0 0 (L.map cls) with | some (t, []) => some t | _ => none := rfl
    cases hr : pB (fuelOf L) 0 0 0 (L.map cls) with
    | none =>
      rw [hr] at hA hpar
      obtain ⟨a', n', c', w, rfl, hc', hps⟩ := hA rfl
      obtain ⟨nv, hb, hnn⟩ := hps.blk
      have hle := hps.le
      have hpp := hp1.trans hps.pre
      have hf2 := look_prefix hps.pre hf1
      have hflt := look_lt hf2
      simp only [go_sem, ↓reduceIte, Nat.reduceEqDiff, Nat.reduceAdd, Nat.reduceMul, Nat.reduceLT, Nat.reduceLeDiff, Int.reduceLT, Int.reduceLE, Int.reduceNeg, Int.reduceAdd, Int.reduceSub, Int.reduceMul, Int.reduceToNat, Int.reduceEq, Int.reduceNe, Int.cast_ofNat_Int, Int.natCast_one, Int.natCast_zero, Int.natCast_add, reduceCtorEq, t0, t2, t3, t7, t8, t9, hb, hc', hf2]
      (repeat (refine And.intro ?_ ?_; focus (first | (refine quiet_pre ?_; simp [List.cons_prefix_cons]; done) | (refine quiet_look ?_; kernel_rfl))))
      simp only [go_sem, ↓reduceIte, Nat.reduceEqDiff, Nat.reduceAdd, Nat.reduceMul, Nat.reduceLT, Nat.reduceLeDiff, Int.reduceLT, Int.reduceLE, Int.reduceNeg, Int.reduceAdd, Int.reduceSub, Int.reduceMul, Int.reduceToNat, Int.reduceEq, Int.reduceNe, Int.cast_ofNat_Int, Int.natCast_one, Int.natCast_zero, Int.natCast_add, reduceCtorEq, t0, t2, t3, t7, t8, t9, look_set hflt]
      refine ⟨?_, prefix_set hpp (Nat.le_refl _)⟩
      rw [ParseV, bad_none hv, hpar]
      exact ⟨c', a', rfl, hc', by omega, by omega⟩
    | some tr =>
      obtain ⟨t, r⟩ := tr
      rw [hr] at hA hpar
      obtain ⟨a', hlt, rfl, rfl, hps⟩ := hA rfl
      obtain ⟨nv, hb, hnn⟩ := hps.blk
      have hle := hps.le
      have hpp := hp1.trans hps.pre
      have hf2 := look_prefix hps.pre hf1
      have hflt := look_lt hf2
      have hbl := look_lt hb
      have hlp := hps.pre.length_le
      have hne : σ1.length ≠ σ.length := by omega
      have hne2 : σ.length ≠ σ1.length := by omega
      by_cases hend : a' < L.length
      · simp only [go_sem, ↓reduceIte, Nat.reduceEqDiff, Nat.reduceAdd, Nat.reduceMul, Nat.reduceLT, Nat.reduceLeDiff, Int.reduceLT, Int.reduceLE, Int.reduceNeg, Int.reduceAdd, Int.reduceSub, Int.reduceMul, Int.reduceToNat, Int.reduceEq, Int.reduceNe, Int.cast_ofNat_Int, Int.natCast_one, Int.natCast_zero, Int.natCast_add, reduceCtorEq, t0, t2, t3, t7, t8, t9, hb, show (a' : Int) < (L.length : Int) by omega, look_set hbl, look_set hflt, hf2, hne2]
        (repeat (refine And.intro ?_ ?_; focus (first | (refine quiet_pre ?_; simp [List.cons_prefix_cons]; done) | (refine quiet_look ?_; kernel_rfl))))
        have hflt3 : σ.length < (σ2.set σ1.length (some ⟨[.slice (some ⟨n, 0, none⟩) L.length c, .int .i64 a', nv, .int .i64 1], true, 0⟩)).length := by rw [List.length_set]; exact hflt
        simp only [go_sem, ↓reduceIte, Nat.reduceEqDiff, Nat.reduceAdd, Nat.reduceMul, Nat.reduceLT, Nat.reduceLeDiff, Int.reduceLT, Int.reduceLE, Int.reduceNeg, Int.reduceAdd, Int.reduceSub, Int.reduceMul, Int.reduceToNat, Int.reduceEq, Int.reduceNe, Int.cast_ofNat_Int, Int.natCast_one, Int.natCast_zero, Int.natCast_add, reduceCtorEq, t0, t2, t3, t7, t8, t9, look_set hflt3]
        refine ⟨?_, prefix_set (prefix_set hpp hp1.length_le) (Nat.le_refl _)⟩
        rw [ParseV, bad_none hv, hpar]
        rw [List.drop_eq_getElem_cons hend, List.map_cons]
        exact ⟨1, a', rfl, by omega, by omega, by omega⟩
      · simp only [go_sem, ↓reduceIte, Nat.reduceEqDiff, Nat.reduceAdd, Nat.reduceMul, Nat.reduceLT, Nat.reduceLeDiff, Int.reduceLT, Int.reduceLE, Int.reduceNeg, Int.reduceAdd, Int.reduceSub, Int.reduceMul, Int.reduceToNat, Int.reduceEq, Int.reduceNe, Int.cast_ofNat_Int, Int.natCast_one, Int.natCast_zero, Int.natCast_add, reduceCtorEq, t0, t2, t3, t7, t8, t9, hb, show ¬ (a' : Int) < (L.length : Int) by omega, look_set hflt, hf2]
        refine ⟨?_, prefix_set hpp (Nat.le_refl _)⟩
        rw [ParseV, bad_none hv, hpar]
        rw [List.drop_eq_nil_of_le (by omega)]
        have hpl := post_len t []
        simp only [List.length_nil, Nat.zero_add] at hpl
        have hpos := t.pos
        rcases hnn with ⟨h1, rfl⟩ | ⟨q, cq, rfl, hq, h2, h3⟩
        · rw [h1] at hpl; simp at hpl; omega
        · refine ⟨q, cq, by rw [hpl]; rfl, by have := hp1.length_le; omega, ?_⟩
          rw [look_set hflt, if_neg]
          · exact h3
          · have := hp1.length_le; omega
end Go.Proofs.YtkgdkommahgakaaDoor.Abs
