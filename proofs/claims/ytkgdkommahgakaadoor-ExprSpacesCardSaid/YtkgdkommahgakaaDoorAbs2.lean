/- The abstract machine: what a new block, a store and an append do to a world that is as an abstract heap says. -/
import Derived.Test.YtkgdkommahgakaaDoorAbs1
namespace Go.Proofs.YtkgdkommahgakaaDoor.Abs
open Go Go.RowKit
set_option linter.unusedVariables false

def Map.upd (β : Map) (n : Nat) (cb : CB) : Map := fun m => if m = n then some cb else β m
theorem Map.upd_same (β : Map) (n : Nat) (cb : CB) : β.upd n cb n = some cb := by simp [Map.upd]
theorem Map.upd_ne (β : Map) {n m : Nat} (cb : CB) (h : m ≠ n) : β.upd n cb m = β m := by simp [Map.upd, h]
theorem Map.upd_sub {β : Map} {n : Nat} {cb : CB} (h : β n = none) : ∀ m c, β m = some c → β.upd n cb m = some c := fun m c hm => by
  by_cases hmn : m = n
  · subst hmn; rw [h] at hm; simp at hm
  · rw [Map.upd_ne β cb hmn]; exact hm

theorem look_append_lt {σ : Heap} {o : Option Blk} {n : Nat} (h : n < σ.length) : look (σ ++ [o]) n = look σ n := by
  unfold look
  rw [List.getElem?_append_left h]
theorem look_append_eq {σ : Heap} {o : Option Blk} : look (σ ++ [o]) σ.length = o := by
  unfold look
  rw [List.getElem?_append_right (Nat.le_refl _)]
  simp
theorem look_append_some {σ : Heap} {o : Option Blk} {n : Nat} {b : Blk} (h : look (σ ++ [o]) n = some b) : (n < σ.length ∧ look σ n = some b) ∨ (n = σ.length ∧ o = some b) := by
  rcases Nat.lt_or_ge n σ.length with h' | h'
  · rw [look_append_lt h'] at h; exact .inl ⟨h', h⟩
  · have := look_lt h
    have e : n = σ.length := by simp at this; omega
    subst e
    rw [look_append_eq] at h
    exact .inr ⟨rfl, h⟩
theorem look_set_ne {σ : Heap} {o : Option Blk} {n m : Nat} (h : m ≠ n) : look (σ.set n o) m = look σ m := by
  unfold look
  rw [List.getElem?_set_ne (Ne.symm h)]
theorem look_set_eq {σ : Heap} {o : Option Blk} {n : Nat} (h : n < σ.length) : look (σ.set n o) n = o := by
  unfold look
  rw [List.getElem?_set_self h]
  rfl

section
variable {base G : Nat} {β : Map} {σ : Heap} {w : World}

/-- A new block of the call's own. -/
theorem sim_new (hs : Sim base G β σ w) (hf : β σ.length = none) {cells : List Value} {sz : Nat} {c : Array Value} {e : TypeId} {w' : World}
    (hw : w'.heap = w.heap.push (.cells c e)) (ho : w'.os = w.os) (ht : w'.tape = w.tape) (hp : w'.output = w.output)
    (hl : cells.length ≤ c.size) (hone : ∀ v ∈ cells, v.oneCell' = true) (hr : ∀ (i : Nat) (v : Value), cells[i]? = some v → ∃ v', c[i]? = some v' ∧ Rel β v v') :
    Sim base G (β.upd σ.length ⟨w.heap.size, 0, c.size, true, sz⟩) (σ ++ [some ⟨cells, true, sz⟩]) w' ∧
      Step β σ w (β.upd σ.length ⟨w.heap.size, 0, c.size, true, sz⟩) (σ ++ [some ⟨cells, true, sz⟩]) w' := by
  have hsub := Map.upd_sub (cb := ⟨w.heap.size, 0, c.size, true, sz⟩) hf
  have hsz : w'.heap.size = w.heap.size + 1 := by rw [hw]; simp
  have hold : ∀ k, k < w.heap.size → w'.heap[k]? = w.heap[k]? := fun k hk => by
    rw [hw, Array.getElem?_push, if_neg (by omega)]
  have hlt : ∀ n cb b, β n = some cb → look σ n = some b → cb.blk < w.heap.size := fun n cb b h1 h2 => by
    obtain ⟨c', e', frz, hc, _⟩ := (hs.holds n cb b h1 h2).obj
    exact (Array.getElem?_eq_some_iff.1 hc).1
  refine ⟨⟨by have := hs.size; omega, ?_, ?_, ?_, ?_⟩, ⟨by simp, ?_, ?_, hsub, ?_, by omega, ho, ht, hp, fun k hk _ => hold k hk⟩⟩
  · intro n cb b h1 h2
    rcases look_append_some h2 with ⟨hn, h2⟩ | ⟨rfl, h2'⟩
    · rw [Map.upd_ne _ _ (by omega)] at h1
      have h := hs.holds n cb b h1 h2
      obtain ⟨c', e', frz, hc, h3, h4, h5⟩ := h.obj
      refine ⟨⟨c', e', frz, by rw [hold _ (hlt n cb b h1 h2)]; exact hc, h3, h4, fun i v hv => ?_⟩, h.len, h.own, h.sz, h.one⟩
      obtain ⟨v', hv', hr'⟩ := h5 i v hv
      exact ⟨v', hv', hr'.mono hsub⟩
    · rw [Map.upd_same] at h1
      obtain rfl := Option.some.inj h1
      obtain rfl := Option.some.inj h2'
      refine ⟨⟨c, e, (0, 0), by rw [hw, Array.getElem?_push, if_pos rfl], by simp, fun _ => Nat.le_refl _, fun i v hv => ?_⟩, hl, rfl, rfl, hone⟩
      obtain ⟨v', hv', hr'⟩ := hr i v hv
      exact ⟨v', by simpa using hv', hr'.mono hsub⟩
  · intro n cb b h1 h2 h3
    rcases look_append_some h2 with ⟨hn, h2⟩ | ⟨rfl, h2⟩
    · rw [Map.upd_ne _ _ (by omega)] at h1
      exact hs.ge n cb b h1 h2 h3
    · rw [Map.upd_same] at h1
      obtain rfl := Option.some.inj h1
      exact hs.size
  · intro n m cb cb' b b' hnm h1 h2 h3 h4 h5
    rcases look_append_some h3 with ⟨hn, h3⟩ | ⟨rfl, h3⟩
    · rw [Map.upd_ne _ _ (by omega)] at h1
      rcases look_append_some h4 with ⟨hm, h4⟩ | ⟨rfl, h4⟩
      · rw [Map.upd_ne _ _ (by omega)] at h2
        exact hs.disj n m cb cb' b b' hnm h1 h2 h3 h4 h5
      · rw [Map.upd_same] at h2
        obtain rfl := Option.some.inj h2
        have := hlt n cb b h1 h3
        show cb.blk ≠ w.heap.size
        omega
    · rw [Map.upd_same] at h1
      obtain rfl := Option.some.inj h1
      rcases look_append_some h4 with ⟨hm, h4⟩ | ⟨rfl, h4⟩
      · rw [Map.upd_ne _ _ (by omega)] at h2
        have := hlt m cb' b' h2 h4
        show w.heap.size ≠ cb'.blk
        omega
      · exact absurd rfl hnm
  · intro g hg
    obtain ⟨cb, h2, h3⟩ := hs.glob g hg
    exact ⟨cb, hsub _ _ h2, h3⟩
  · intro n hn h
    rw [look_append_lt hn]
    exact h
  · intro n h1 h2
    have : n = σ.length := by simp at h2; omega
    rw [this]
    exact hf
  · intro n cb h
    by_cases hn : n = σ.length
    · subst hn
      rw [Map.upd_same] at h
      obtain rfl := Option.some.inj h
      exact .inr ⟨hf, Nat.le_refl _, by simp, rfl, .inl (Nat.le_refl _)⟩
    · rw [Map.upd_ne _ _ hn] at h
      exact .inl h

/-- A store into a block of the call's own: the block's cells are others. -/
theorem sim_store (hs : Sim base G β σ w) {n : Nat} {b : Blk} {cb : CB} (hb : look σ n = some b) (hc : β n = some cb) (ho : b.own = true) {cells : List Value} (hlen : cells.length = b.cells.length) (hone : ∀ v ∈ cells, v.oneCell' = true)
    {c c' : Array Value} {e : TypeId} {frz : Nat × Nat} {w' : World} (hold : w.heap[cb.blk]? = some (.cells c e frz)) (hnew : w'.heap[cb.blk]? = some (.cells c' e frz)) (hsz : c'.size = c.size)
    (hothers : ∀ k, k ≠ cb.blk → w'.heap[k]? = w.heap[k]?) (hsize : w'.heap.size = w.heap.size) (hos : w'.os = w.os) (ht : w'.tape = w.tape) (hp : w'.output = w.output)
    (hr : ∀ i v, cells[i]? = some v → ∃ v', c'[cb.off + i]? = some v' ∧ Rel β v v') :
    Sim base G β (σ.set n (some { b with cells := cells })) w' ∧ Step β σ w β (σ.set n (some { b with cells := cells })) w' := by
  have hn := look_lt hb
  have hh := hs.holds n cb b hc hb
  have hco : cb.own = true := hh.own.trans ho
  refine ⟨⟨by have := hs.size; omega, ?_, ?_, ?_, ?_⟩, ⟨by simp, ?_, fun m h1 h2 => by simp at h2; omega, fun _ _ h => h, fun _ _ h => .inl h, by omega, hos, ht, hp, ?_⟩⟩
  · intro m cb' b' h1 h2
    by_cases hmn : m = n
    · subst hmn
      rw [look_set_eq hn] at h2
      obtain rfl := Option.some.inj h2
      rw [hc] at h1
      obtain rfl := Option.some.inj h1
      obtain ⟨c0, e0, frz0, h3, h4, h5, _⟩ := hh.obj
      rw [hold] at h3
      simp only [Option.some.injEq, Obj.cells.injEq] at h3
      obtain ⟨rfl, rfl, rfl⟩ := h3
      exact ⟨⟨c', _, _, hnew, by rw [hsz]; exact h4, h5, hr⟩, by show cells.length ≤ _; rw [hlen]; exact hh.len, hh.own, hh.sz, hone⟩
    · rw [look_set_ne hmn] at h2
      have h := hs.holds m cb' b' h1 h2
      obtain ⟨c0, e0, frz0, h3, h4⟩ := h.obj
      exact ⟨⟨c0, e0, frz0, by rw [hothers _ (Ne.symm (hs.disj n m cb cb' b b' (Ne.symm hmn) hc h1 hb h2 hco))]; exact h3, h4⟩, h.len, h.own, h.sz, h.one⟩
  · intro m cb' b' h1 h2 h3
    by_cases hmn : m = n
    · subst hmn
      exact hs.ge m cb' b h1 hb h3
    · rw [look_set_ne hmn] at h2
      exact hs.ge m cb' b' h1 h2 h3
  · intro m k cb1 cb2 b1 b2 hmk h1 h2 h3 h4 h5
    have look' : ∀ j x, look (σ.set n (some { b with cells := cells })) j = some x → ∃ y, look σ j = some y := fun j x hj => by
      by_cases hjn : j = n
      · exact ⟨b, by rw [hjn]; exact hb⟩
      · rw [look_set_ne hjn] at hj; exact ⟨x, hj⟩
    obtain ⟨y1, hy1⟩ := look' m b1 h3
    obtain ⟨y2, hy2⟩ := look' k b2 h4
    exact hs.disj m k cb1 cb2 y1 y2 hmk h1 h2 hy1 hy2 h5
  · exact hs.glob
  · intro m hm h
    by_cases hmn : m = n
    · subst hmn; rw [hb] at h; simp at h
    · rw [look_set_ne hmn]; exact h
  · intro k hk h
    exact hothers k (fun he => h n b cb hb hc hco he.symm)

/-- An append in place: the elder name is dead, a new one has the cells. -/
theorem sim_again (hs : Sim base G β σ w) (hf : β σ.length = none) {n : Nat} {b : Blk} {cb : CB} (hb : look σ n = some b) (hc : β n = some cb) (ho : b.own = true) {cells : List Value} {d sz : Nat}
    {c c' : Array Value} {e : TypeId} {frz : Nat × Nat} {w' : World} (hold : w.heap[cb.blk]? = some (.cells c e frz)) (hnew : w'.heap[cb.blk]? = some (.cells c' e frz)) (hsz : c'.size = c.size)
    (hothers : ∀ k, k ≠ cb.blk → w'.heap[k]? = w.heap[k]?) (hsize : w'.heap.size = w.heap.size) (hos : w'.os = w.os) (ht : w'.tape = w.tape) (hp : w'.output = w.output)
    (hd : d ≤ cb.room) (hone : ∀ v ∈ cells, v.oneCell' = true) (hlen : cells.length ≤ cb.room - d) (hr : ∀ i v, cells[i]? = some v → ∃ v', c'[cb.off + d + i]? = some v' ∧ Rel β v v') :
    Sim base G (β.upd σ.length ⟨cb.blk, cb.off + d, cb.room - d, true, sz⟩) ((σ.set n none) ++ [some ⟨cells, true, sz⟩]) w' ∧
      Step β σ w (β.upd σ.length ⟨cb.blk, cb.off + d, cb.room - d, true, sz⟩) ((σ.set n none) ++ [some ⟨cells, true, sz⟩]) w' := by
  have hn := look_lt hb
  have hh := hs.holds n cb b hc hb
  have hco : cb.own = true := hh.own.trans ho
  have hl : (σ.set n none).length = σ.length := by simp
  have hsub := Map.upd_sub (cb := ⟨cb.blk, cb.off + d, cb.room - d, true, sz⟩) hf
  have look1 : ∀ m x, look ((σ.set n none) ++ [some ⟨cells, true, sz⟩]) m = some x → (m < σ.length ∧ m ≠ n ∧ look σ m = some x) ∨ (m = σ.length ∧ x = ⟨cells, true, sz⟩) := by
    intro m x h
    rcases look_append_some h with ⟨h1, h2⟩ | ⟨h1, h2⟩
    · by_cases hmn : m = n
      · subst hmn; rw [look_set_eq hn] at h2; simp at h2
      · rw [look_set_ne hmn] at h2; exact .inl ⟨by omega, hmn, h2⟩
    · exact .inr ⟨by omega, (Option.some.inj h2).symm⟩
  refine ⟨⟨by have := hs.size; omega, ?_, ?_, ?_, ?_⟩, ⟨by simp, ?_, ?_, hsub, ?_, by omega, hos, ht, hp, ?_⟩⟩
  · intro m cb' b' h1 h2
    rcases look1 m b' h2 with ⟨hm, hmn, h2⟩ | ⟨rfl, rfl⟩
    · rw [Map.upd_ne _ _ (by omega)] at h1
      have h := hs.holds m cb' b' h1 h2
      obtain ⟨c0, e0, frz0, h3, h4, h5, h6⟩ := h.obj
      refine ⟨⟨c0, e0, frz0, by rw [hothers _ (Ne.symm (hs.disj n m cb cb' b b' (Ne.symm hmn) hc h1 hb h2 hco))]; exact h3, h4, h5, fun i v hv => ?_⟩, h.len, h.own, h.sz, h.one⟩
      obtain ⟨v', hv', hr'⟩ := h6 i v hv
      exact ⟨v', hv', hr'.mono hsub⟩
    · rw [Map.upd_same] at h1
      obtain rfl := Option.some.inj h1
      obtain ⟨c0, e0, frz0, h3, h4, h5, _⟩ := hh.obj
      rw [hold] at h3
      simp only [Option.some.injEq, Obj.cells.injEq] at h3
      obtain ⟨rfl, rfl, rfl⟩ := h3
      refine ⟨⟨c', _, _, hnew, by show cb.off + d + (cb.room - d) ≤ c'.size; omega, fun _ => h5 hco, fun i v hv => ?_⟩, hlen, rfl, rfl, hone⟩
      obtain ⟨v', hv', hr'⟩ := hr i v hv
      exact ⟨v', hv', hr'.mono hsub⟩
  · intro m cb' b' h1 h2 h3
    rcases look1 m b' h2 with ⟨hm, hmn, h2⟩ | ⟨rfl, rfl⟩
    · rw [Map.upd_ne _ _ (by omega)] at h1
      exact hs.ge m cb' b' h1 h2 h3
    · rw [Map.upd_same] at h1
      obtain rfl := Option.some.inj h1
      exact hs.ge n cb b hc hb hco
  · intro m k cb1 cb2 b1 b2 hmk h1 h2 h3 h4 h5
    rcases look1 m b1 h3 with ⟨hm, hmn, h3⟩ | ⟨rfl, rfl⟩
    · rw [Map.upd_ne _ _ (by omega)] at h1
      rcases look1 k b2 h4 with ⟨hk, hkn, h4⟩ | ⟨rfl, rfl⟩
      · rw [Map.upd_ne _ _ (by omega)] at h2
        exact hs.disj m k cb1 cb2 b1 b2 hmk h1 h2 h3 h4 h5
      · rw [Map.upd_same] at h2
        obtain rfl := Option.some.inj h2
        exact hs.disj m n cb1 cb b1 b hmn h1 hc h3 hb h5
    · rw [Map.upd_same] at h1
      obtain rfl := Option.some.inj h1
      rcases look1 k b2 h4 with ⟨hk, hkn, h4⟩ | ⟨rfl, rfl⟩
      · rw [Map.upd_ne _ _ (by omega)] at h2
        exact hs.disj n k cb cb2 b b2 (Ne.symm hkn) hc h2 hb h4 hco
      · exact absurd rfl hmk
  · intro g hg
    obtain ⟨cb', h3, h4⟩ := hs.glob g hg
    exact ⟨cb', hsub _ _ h3, h4⟩
  · intro m hm h
    rw [look_append_lt (by omega)]
    by_cases hmn : m = n
    · subst hmn; rw [look_set_eq hn]
    · rw [look_set_ne hmn]; exact h
  · intro m h1 h2
    have : m = σ.length := by simp at h2; omega
    rw [this]
    exact hf
  · intro m cb' h
    by_cases hm : m = σ.length
    · subst hm
      rw [Map.upd_same] at h
      obtain rfl := Option.some.inj h
      exact .inr ⟨hf, Nat.le_refl _, by simp, rfl, .inr ⟨n, b, cb, hb, hc, hco, rfl⟩⟩
    · rw [Map.upd_ne _ _ hm] at h
      exact .inl h
  · intro k hk h
    exact hothers k (fun he => h n b cb hb hc hco he.symm)

/-- An append that makes a new block: the elder name is dead. -/
theorem sim_moved (hs : Sim base G β σ w) (hf : β σ.length = none) {n : Nat} {b : Blk} (hb : look σ n = some b) {cells : List Value} {sz : Nat} {c : Array Value} {e : TypeId} {w' : World}
    (hw : w'.heap = w.heap.push (.cells c e)) (ho : w'.os = w.os) (ht : w'.tape = w.tape) (hp : w'.output = w.output)
    (hl : cells.length ≤ c.size) (hone : ∀ v ∈ cells, v.oneCell' = true) (hr : ∀ (i : Nat) (v : Value), cells[i]? = some v → ∃ v', c[i]? = some v' ∧ Rel β v v') :
    Sim base G (β.upd σ.length ⟨w.heap.size, 0, c.size, true, sz⟩) ((σ.set n none) ++ [some ⟨cells, true, sz⟩]) w' ∧
      Step β σ w (β.upd σ.length ⟨w.heap.size, 0, c.size, true, sz⟩) ((σ.set n none) ++ [some ⟨cells, true, sz⟩]) w' := by
  have hn := look_lt hb
  have hs0 : Sim base G β (σ.set n none) w := by
    have lk : ∀ m x, look (σ.set n none) m = some x → look σ m = some x := fun m x h => by
      by_cases hmn : m = n
      · subst hmn; rw [look_set_eq hn] at h; simp at h
      · rw [look_set_ne hmn] at h; exact h
    exact ⟨hs.size, fun m cb x h1 h2 => hs.holds m cb x h1 (lk m x h2), fun m cb x h1 h2 => hs.ge m cb x h1 (lk m x h2), fun m k cb1 cb2 x1 x2 h0 h1 h2 h3 h4 => hs.disj m k cb1 cb2 x1 x2 h0 h1 h2 (lk m x1 h3) (lk k x2 h4),
      hs.glob⟩
  have hl0 : (σ.set n none).length = σ.length := by simp
  obtain ⟨h1, h2⟩ := sim_new (sz := sz) hs0 (by rw [hl0]; exact hf) hw ho ht hp hl hone hr
  rw [hl0] at h1 h2
  refine ⟨h1, ⟨by simp, ?_, ?_, h2.sub, ?_, h2.size, h2.os, h2.tape, h2.output, ?_⟩⟩
  · intro m hm h
    rw [look_append_lt (by omega)]
    by_cases hmn : m = n
    · subst hmn; rw [look_set_eq hn]
    · rw [look_set_ne hmn]; exact h
  · intro m h3 h4
    exact h2.fresh m (by rw [hl0]; exact h3) h4
  · intro m cb h
    rcases h2.dom m cb h with h3 | ⟨h3, h4, h5, h6, h7⟩
    · exact .inl h3
    · refine .inr ⟨h3, by rw [hl0] at h4; exact h4, h5, h6, ?_⟩
      rcases h7 with h7 | ⟨k, x, ck, hk, h8⟩
      · exact .inl h7
      · refine .inr ⟨k, x, ck, ?_, h8⟩
        by_cases hkn : k = n
        · subst hkn; rw [look_set_eq hn] at hk; simp at hk
        · rw [look_set_ne hkn] at hk; exact hk
  · intro k hk h
    refine h2.frame k hk fun m x cb hm => h m x cb ?_
    by_cases hmn : m = n
    · subst hmn; rw [look_set_eq hn] at hm; simp at hm
    · rw [look_set_ne hmn] at hm; exact hm
end
end Go.Proofs.YtkgdkommahgakaaDoor.Abs
