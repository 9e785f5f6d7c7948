/- Part GroupM of the proof: an abstract machine for the program's calls, and what functions do on it. It has no conditions. -/
import Derived.Test.YtkgdkommahgakaaDoorGroupJ
import Derived.Lib.ConvBytes
import Derived.Lib.AtoiErrMem
import Derived.Lib.Strings
import Derived.Lib.Walk
import Derived.Lib.Hide
import Derived.Laws.Strings3
import Derived.Laws.Closers25
import Derived.Laws.Closers25b
import Derived.WalkKit
import Derived.BigCall
import Derived.BigGuard
import Derived.Shelf.Strings.OnBuilder
import Derived.Shelf.Strconv.Itoa2
import Derived.Shelf.Strconv.Itoa3
import Derived.Shelf.Strconv.ToError
import Derived.Shelf.Strconv.ToErrorRange
import Derived.Shelf.LaysC
import Derived.Shelf.LaysM
import Derived.Lib.ItoaMem
/- internal/strconv.ParseUint at base 16 and 10, 32 bits: the bytes folded to a number; strconv.ParseUint on top of it, as an outside function. -/
namespace Go.Proofs.YtkgdkommahgakaaDoor.Abs
open Go Go.RowKit
set_option linter.unusedVariables false
set_option linter.unusedSimpArgs false
set_option maxRecDepth 100000

/-- A letter with the bit 32 set. -/
def lw (c : UInt8) : Int := bits .or .u8 (c.toNat : Int) 32
/-- What a byte counts as a digit. -/
def dgt (c : UInt8) : Option Nat := if 48 ≤ c.toNat ∧ c.toNat ≤ 57 then some (c.toNat - 48) else if 97 ≤ lw c ∧ lw c ≤ 122 then some (lw c - 87).toNat else none
inductive PR
  | ok (n : Nat)
  | syn
  | range
def pu (b : Nat) : Nat → List UInt8 → PR
  | acc, [] => .ok acc
  | acc, c :: r => match dgt c with
    | none => .syn
    | some d => if b ≤ d then .syn else if 4294967295 < acc * b + d then .range else pu b (acc * b + d) r
def prV (e : Value → Value) : PR → Value
  | .ok n => .tuple #[.int .u64 n, .nilIface]
  | .syn => .tuple #[.int .u64 0, e (.int .i64 2)]
  | .range => .tuple #[.int .u64 4294967295, e (.int .i64 1)]

theorem lib126 (c : Int) (w : World) : Calls Tryd.prog 126 #[.int .u8 c] w fun e w' => e = .returned (.int .u8 (bits .or .u8 c 32)) ∧ w' = w := by
  go_enter Tryd.func126, Tryd.ntmps126
  go_wp2
  go_ret
  exact ⟨rfl, rfl⟩
theorem lib126x {c x : Int} (h : bits .or .u8 c 32 = x) (w : World) : Calls Tryd.prog 126 #[.int .u8 c] w fun e w' => e = .returned (.int .u8 x) ∧ w' = w := by
  subst h
  exact lib126 c w

set_option maxHeartbeats 32000000 in
theorem lib120h (t : ByteArray) (hne : t.size ≠ 0) (hmax : t.size ≤ 9223372036854775806) (w : World) :
    Calls Tryd.prog 120 #[.string t, .int .i64 16, .int .i64 32] w fun e w' => e = .returned (prV (.iface 154) (pu 16 0 t.data.toList)) ∧ w' = Lib.bytesWorld w 5 t := by
  have hemp : t.toList.isEmpty = false := by
    rw [← decide_eq_emptyBytes]
    exact decide_eq_false (fun h => hne (by rw [h]; rfl))
  have hcv := Lib.run_convert_string_bytes (P := Tryd.prog) w 9 126 5 t (u := .string) Tryd.underlying9 Tryd.underlying126 Tryd.underlying5
  have hB : ∀ j, j < t.size → (Lib.bytesWorld w 5 t).cell? ⟨w.heap.size, j, none⟩ = some (.int .u8 (t.data.toList.getD j 0).toNat) := fun j hj => Lib.bytesWorld_cell w 5 t j hj
  obtain ⟨W1, hW1⟩ : ∃ W1, W1 = Lib.bytesWorld w 5 t := ⟨_, rfl⟩
  rw [← hW1] at hcv hB ⊢
  clear hW1
  obtain ⟨bs, hL⟩ : ∃ bs, bs = t.data.toList := ⟨_, rfl⟩
  have hLn : bs.length = t.size := by rw [hL, Lib.size_eq]
  rw [← hL] at hB ⊢
  clear hL
  have hmv : IntKind.u64.wrap (IntKind.u64.wrap 4294967296 - 1) = 4294967295 := by
    rw [IntKind.wrap_u64, IntKind.wrap_u64]
    decide
  go_enter Tryd.func120, Tryd.ntmps120
  go_wp2
  go_loop [12, 13, 101] (fun vu vn vi => ∃ (k acc : Nat) (a : Int), vu = .bool false ∧ vn = .int .u64 a ∧ vi = .int .i64 k ∧ k ≤ t.size ∧ Hid (a = (acc : Int) ∧ acc ≤ 4294967295 ∧ pu 16 0 bs = pu 16 acc (bs.drop k)))
    (fun _ _ vi => t.size - (intOf vi).toNat)
  case atStart => exact ⟨0, 0, 0, rfl, rfl, rfl, by omega, rfl, by omega, rfl⟩
  case round =>
    obtain ⟨k, acc, a, rfl, rfl, rfl, hk, hh⟩ := hrel
    obtain ⟨ha, hacc, hdec⟩ := hh.out
    clear hh
    have a0 : 0 ≤ a := by omega
    have a1 : a ≤ 4294967295 := by omega
    by_cases hkn : k < t.size
    · have hc := hB k hkn
      have hdrop : bs.drop k = bs[k]'(by omega) :: bs.drop (k + 1) := List.drop_eq_getElem_cons (by omega)
      have hget : bs.getD k 0 = bs[k]'(by omega) := by simp [List.getD, List.getElem?_eq_getElem (show k < bs.length by omega)]
      rw [hdrop] at hdec
      rw [hget] at hc
      generalize bs[k]'(by omega) = c at hc hdec
      have hc256 : c.toNat < 256 := c.toNat_lt
      clear hB hdrop hget
      by_cases hdig : 48 ≤ c.toNat ∧ c.toNat ≤ 57
      · have hd : dgt c = some (c.toNat - 48) := if_pos hdig
        obtain ⟨hd0, hd1⟩ := hdig
        by_cases hov : 4294967295 < acc * 16 + (c.toNat - 48)
        · have hF : pu 16 acc (c :: bs.drop (k + 1)) = .range := by
            simp only [pu, hd, if_neg (show ¬ 16 ≤ c.toNat - 48 by omega), if_pos hov]
          rw [hF] at hdec
          have iov : 4294967295 < a * 16 + ((c.toNat : Int) - 48) := by omega
          clear hacc hF hov ha hd
          go_wp2
          go_ret2
          first | exact ⟨rfl, rfl⟩ | exact ⟨by rw [hdec]; rfl, rfl⟩
        · have hF : pu 16 acc (c :: bs.drop (k + 1)) = pu 16 (acc * 16 + (c.toNat - 48)) (bs.drop (k + 1)) := by
            simp only [pu, hd, if_neg (show ¬ 16 ≤ c.toNat - 48 by omega), if_neg hov]
          have HN : Hid (a * 16 + ((c.toNat : Int) - 48) = ((acc * 16 + (c.toNat - 48) : Nat) : Int) ∧ acc * 16 + (c.toNat - 48) ≤ 4294967295 ∧ pu 16 0 bs = pu 16 (acc * 16 + (c.toNat - 48)) (bs.drop (k + 1))) := Lib.hid ⟨by omega, by omega, hdec.trans hF⟩
          have iov : a * 16 + ((c.toNat : Int) - 48) ≤ 4294967295 := by omega
          clear hacc hF hov hdec ha hd
          go_wp2
          refine ⟨⟨k + 1, acc * 16 + (c.toNat - 48), a * 16 + ((c.toNat : Int) - 48), rfl, (by first | rfl | (congr 1; omega)), (by first | rfl | (congr 1; omega)), by omega, HN⟩, by simp [intOf]; omega⟩
      · have hv0 := bits_lo_u8 .or (c.toNat : Int) 32
        have hv1 := bits_hi_u8 .or (c.toNat : Int) 32
        have hfac : lw c = bits .or .u8 (c.toNat : Int) 32 := rfl
        obtain ⟨x, hx⟩ : ∃ x, bits .or .u8 (c.toNat : Int) 32 = x := ⟨_, rfl⟩
        rw [hx] at hv0 hv1 hfac
        by_cases h95 : c.toNat = 95
        · have hF : pu 16 acc (c :: bs.drop (k + 1)) = .syn := by
            have hx2 : x = 127 := by rw [← hx, h95]; kernel_rfl
            have hd : dgt c = none := by rw [dgt, if_neg hdig, if_neg (by omega)]
            simp only [pu, hd]
          rw [h95] at hc hx
          obtain rfl : x = 127 := by rw [← hx]; kernel_rfl
          rw [hF] at hdec
          clear hacc hF ha hfac hc256 hdig h95
          go_wp2_with (go_at_call 126; refine (lib126x hx _).mono ?_; rintro e w' ⟨rfl, rfl⟩)
          all_goals go_ret2
          all_goals first | exact ⟨rfl, rfl⟩ | exact ⟨by rw [hdec]; rfl, rfl⟩
        have i95 : ¬ (c.toNat : Int) = 95 := by omega
        by_cases hlet : 97 ≤ x ∧ x ≤ 122
        · have hd : dgt c = some (x - 87).toNat := by rw [dgt, if_neg hdig, hfac, if_pos hlet]
          obtain ⟨l0, l1⟩ := hlet
          by_cases h102 : 102 < x
          · have hF : pu 16 acc (c :: bs.drop (k + 1)) = .syn := by
              simp only [pu, hd, if_pos (show 16 ≤ (x - 87).toNat by omega)]
            rw [hF] at hdec
            clear hacc hF ha hfac hd
            rcases (show c.toNat < 48 ∨ 57 < c.toNat by omega) with hcc | hcc
            all_goals
              clear hdig
              go_wp2_with (go_at_call 126; refine (lib126x hx _).mono ?_; rintro e w' ⟨rfl, rfl⟩)
              all_goals go_ret2
              all_goals first | exact ⟨rfl, rfl⟩ | exact ⟨by rw [hdec]; rfl, rfl⟩
          · have h16 : ¬ 16 ≤ (x - 87).toNat := by omega
            rcases (show c.toNat < 48 ∨ 57 < c.toNat by omega) with hcc | hcc
            all_goals
              clear hdig
              by_cases hov : 4294967295 < acc * 16 + (x - 87).toNat
              · have hF : pu 16 acc (c :: bs.drop (k + 1)) = .range := by
                  simp only [pu, hd, if_neg h16, if_pos hov]
                rw [hF] at hdec
                have iov : 4294967295 < a * 16 + (x - 97 + 10) := by omega
                clear hacc hF hov ha hfac hd h16
                go_wp2_with (go_at_call 126; refine (lib126x hx _).mono ?_; rintro e w' ⟨rfl, rfl⟩)
                all_goals go_ret2
                all_goals first | exact ⟨rfl, rfl⟩ | exact ⟨by rw [hdec]; rfl, rfl⟩
              · have hF : pu 16 acc (c :: bs.drop (k + 1)) = pu 16 (acc * 16 + (x - 87).toNat) (bs.drop (k + 1)) := by
                  simp only [pu, hd, if_neg h16, if_neg hov]
                have HN : Hid (a * 16 + (x - 97 + 10) = ((acc * 16 + (x - 87).toNat : Nat) : Int) ∧ acc * 16 + (x - 87).toNat ≤ 4294967295 ∧ pu 16 0 bs = pu 16 (acc * 16 + (x - 87).toNat) (bs.drop (k + 1))) := Lib.hid ⟨by omega, by omega, hdec.trans hF⟩
                have iov : a * 16 + (x - 97 + 10) ≤ 4294967295 := by omega
                clear hacc hF hov hdec ha hfac hd h16
                go_wp2_with (go_at_call 126; refine (lib126x hx _).mono ?_; rintro e w' ⟨rfl, rfl⟩)
                refine ⟨⟨k + 1, acc * 16 + (x - 87).toNat, a * 16 + (x - 97 + 10), rfl, (by first | rfl | (congr 1; omega)), (by first | rfl | (congr 1; omega)), by omega, HN⟩, by simp [intOf]; omega⟩
        · have hF : pu 16 acc (c :: bs.drop (k + 1)) = .syn := by
            have hd : dgt c = none := by rw [dgt, if_neg hdig, hfac, if_neg hlet]
            simp only [pu, hd]
          rw [hF] at hdec
          clear hacc hF ha hfac
          rcases (show c.toNat < 48 ∨ 57 < c.toNat by omega) with hcc | hcc
          all_goals
            clear hdig
            rcases (show x < 97 ∨ 122 < x by omega) with hxx | hxx
            all_goals
              clear hlet
              go_wp2_with (go_at_call 126; refine (lib126x hx _).mono ?_; rintro e w' ⟨rfl, rfl⟩)
              all_goals go_ret2
              all_goals first | exact ⟨rfl, rfl⟩ | exact ⟨by rw [hdec]; rfl, rfl⟩
    · have hkk : k = t.size := by omega
      subst hkk
      have hF : pu 16 acc (bs.drop t.size) = .ok acc := by rw [List.drop_eq_nil_of_le (by omega)]; rfl
      rw [hF] at hdec
      subst ha
      clear hacc hF a0 a1
      go_wp2
      go_ret2
      first | exact ⟨rfl, rfl⟩ | exact ⟨by rw [hdec]; rfl, rfl⟩
set_option maxHeartbeats 32000000 in
theorem lib120d (t : ByteArray) (hne : t.size ≠ 0) (hmax : t.size ≤ 9223372036854775806) (w : World) :
    Calls Tryd.prog 120 #[.string t, .int .i64 10, .int .i64 32] w fun e w' => e = .returned (prV (.iface 154) (pu 10 0 t.data.toList)) ∧ w' = Lib.bytesWorld w 5 t := by
  have hemp : t.toList.isEmpty = false := by
    rw [← decide_eq_emptyBytes]
    exact decide_eq_false (fun h => hne (by rw [h]; rfl))
  have hcv := Lib.run_convert_string_bytes (P := Tryd.prog) w 9 126 5 t (u := .string) Tryd.underlying9 Tryd.underlying126 Tryd.underlying5
  have hB : ∀ j, j < t.size → (Lib.bytesWorld w 5 t).cell? ⟨w.heap.size, j, none⟩ = some (.int .u8 (t.data.toList.getD j 0).toNat) := fun j hj => Lib.bytesWorld_cell w 5 t j hj
  obtain ⟨W1, hW1⟩ : ∃ W1, W1 = Lib.bytesWorld w 5 t := ⟨_, rfl⟩
  rw [← hW1] at hcv hB ⊢
  clear hW1
  obtain ⟨bs, hL⟩ : ∃ bs, bs = t.data.toList := ⟨_, rfl⟩
  have hLn : bs.length = t.size := by rw [hL, Lib.size_eq]
  rw [← hL] at hB ⊢
  clear hL
  have hmv : IntKind.u64.wrap (IntKind.u64.wrap 4294967296 - 1) = 4294967295 := by
    rw [IntKind.wrap_u64, IntKind.wrap_u64]
    decide
  go_enter Tryd.func120, Tryd.ntmps120
  go_wp2
  go_loop [12, 13, 101] (fun vu vn vi => ∃ (k acc : Nat) (a : Int), vu = .bool false ∧ vn = .int .u64 a ∧ vi = .int .i64 k ∧ k ≤ t.size ∧ Hid (a = (acc : Int) ∧ acc ≤ 4294967295 ∧ pu 10 0 bs = pu 10 acc (bs.drop k)))
    (fun _ _ vi => t.size - (intOf vi).toNat)
  case atStart => exact ⟨0, 0, 0, rfl, rfl, rfl, by omega, rfl, by omega, rfl⟩
  case round =>
    obtain ⟨k, acc, a, rfl, rfl, rfl, hk, hh⟩ := hrel
    obtain ⟨ha, hacc, hdec⟩ := hh.out
    clear hh
    have a0 : 0 ≤ a := by omega
    have a1 : a ≤ 4294967295 := by omega
    by_cases hkn : k < t.size
    · have hc := hB k hkn
      have hdrop : bs.drop k = bs[k]'(by omega) :: bs.drop (k + 1) := List.drop_eq_getElem_cons (by omega)
      have hget : bs.getD k 0 = bs[k]'(by omega) := by simp [List.getD, List.getElem?_eq_getElem (show k < bs.length by omega)]
      rw [hdrop] at hdec
      rw [hget] at hc
      generalize bs[k]'(by omega) = c at hc hdec
      have hc256 : c.toNat < 256 := c.toNat_lt
      clear hB hdrop hget
      by_cases hdig : 48 ≤ c.toNat ∧ c.toNat ≤ 57
      · have hd : dgt c = some (c.toNat - 48) := if_pos hdig
        obtain ⟨hd0, hd1⟩ := hdig
        by_cases hov : 4294967295 < acc * 10 + (c.toNat - 48)
        · have hF : pu 10 acc (c :: bs.drop (k + 1)) = .range := by
            simp only [pu, hd, if_neg (show ¬ 10 ≤ c.toNat - 48 by omega), if_pos hov]
          rw [hF] at hdec
          have iov : 4294967295 < a * 10 + ((c.toNat : Int) - 48) := by omega
          clear hacc hF hov ha hd
          go_wp2
          go_ret2
          first | exact ⟨rfl, rfl⟩ | exact ⟨by rw [hdec]; rfl, rfl⟩
        · have hF : pu 10 acc (c :: bs.drop (k + 1)) = pu 10 (acc * 10 + (c.toNat - 48)) (bs.drop (k + 1)) := by
            simp only [pu, hd, if_neg (show ¬ 10 ≤ c.toNat - 48 by omega), if_neg hov]
          have HN : Hid (a * 10 + ((c.toNat : Int) - 48) = ((acc * 10 + (c.toNat - 48) : Nat) : Int) ∧ acc * 10 + (c.toNat - 48) ≤ 4294967295 ∧ pu 10 0 bs = pu 10 (acc * 10 + (c.toNat - 48)) (bs.drop (k + 1))) := Lib.hid ⟨by omega, by omega, hdec.trans hF⟩
          have iov : a * 10 + ((c.toNat : Int) - 48) ≤ 4294967295 := by omega
          clear hacc hF hov hdec ha hd
          go_wp2
          refine ⟨⟨k + 1, acc * 10 + (c.toNat - 48), a * 10 + ((c.toNat : Int) - 48), rfl, (by first | rfl | (congr 1; omega)), (by first | rfl | (congr 1; omega)), by omega, HN⟩, by simp [intOf]; omega⟩
      · have hv0 := bits_lo_u8 .or (c.toNat : Int) 32
        have hv1 := bits_hi_u8 .or (c.toNat : Int) 32
        have hfac : lw c = bits .or .u8 (c.toNat : Int) 32 := rfl
        obtain ⟨x, hx⟩ : ∃ x, bits .or .u8 (c.toNat : Int) 32 = x := ⟨_, rfl⟩
        rw [hx] at hv0 hv1 hfac
        by_cases h95 : c.toNat = 95
        · have hF : pu 10 acc (c :: bs.drop (k + 1)) = .syn := by
            have hx2 : x = 127 := by rw [← hx, h95]; kernel_rfl
            have hd : dgt c = none := by rw [dgt, if_neg hdig, if_neg (by omega)]
            simp only [pu, hd]
          rw [h95] at hc hx
          obtain rfl : x = 127 := by rw [← hx]; kernel_rfl
          rw [hF] at hdec
          clear hacc hF ha hfac hc256 hdig h95
          go_wp2_with (go_at_call 126; refine (lib126x hx _).mono ?_; rintro e w' ⟨rfl, rfl⟩)
          all_goals go_ret2
          all_goals first | exact ⟨rfl, rfl⟩ | exact ⟨by rw [hdec]; rfl, rfl⟩
        have i95 : ¬ (c.toNat : Int) = 95 := by omega
        by_cases hlet : 97 ≤ x ∧ x ≤ 122
        · have hd : dgt c = some (x - 87).toNat := by rw [dgt, if_neg hdig, hfac, if_pos hlet]
          obtain ⟨l0, l1⟩ := hlet
          have hF : pu 10 acc (c :: bs.drop (k + 1)) = .syn := by
            simp only [pu, hd, if_pos (show 10 ≤ (x - 87).toNat by omega)]
          rw [hF] at hdec
          clear hacc hF ha hfac hd
          rcases (show c.toNat < 48 ∨ 57 < c.toNat by omega) with hcc | hcc
          all_goals
            clear hdig
            go_wp2_with (go_at_call 126; refine (lib126x hx _).mono ?_; rintro e w' ⟨rfl, rfl⟩)
            all_goals go_ret2
            all_goals first | exact ⟨rfl, rfl⟩ | exact ⟨by rw [hdec]; rfl, rfl⟩
        · have hF : pu 10 acc (c :: bs.drop (k + 1)) = .syn := by
            have hd : dgt c = none := by rw [dgt, if_neg hdig, hfac, if_neg hlet]
            simp only [pu, hd]
          rw [hF] at hdec
          clear hacc hF ha hfac
          rcases (show c.toNat < 48 ∨ 57 < c.toNat by omega) with hcc | hcc
          all_goals
            clear hdig
            rcases (show x < 97 ∨ 122 < x by omega) with hxx | hxx
            all_goals
              clear hlet
              go_wp2_with (go_at_call 126; refine (lib126x hx _).mono ?_; rintro e w' ⟨rfl, rfl⟩)
              all_goals go_ret2
              all_goals first | exact ⟨rfl, rfl⟩ | exact ⟨by rw [hdec]; rfl, rfl⟩
    · have hkk : k = t.size := by omega
      subst hkk
      have hF : pu 10 acc (bs.drop t.size) = .ok acc := by rw [List.drop_eq_nil_of_le (by omega)]; rfl
      rw [hF] at hdec
      subst ha
      clear hacc hF a0 a1
      go_wp2
      go_ret2
      first | exact ⟨rfl, rfl⟩ | exact ⟨by rw [hdec]; rfl, rfl⟩
end Go.Proofs.YtkgdkommahgakaaDoor.Abs

/- Kit contracts at this program's numbering, as the kit's own tool wrote them in plain words (names turned): strings.Join, the parts of strconv.Itoa, strconv.toError. -/
namespace Go.Proofs.YtkgdkommahgakaaDoor.Sh
open Go Go.Shelf Go.Proofs
set_option maxRecDepth 100000
def sh_lays156_ren : Go.Shelf.Ren := ⟨fun | 156 => 91 | 165 => 112 | 166 => 97 | 169 => 99 | 240 => 115 | 241 => 118 | 276 => 122 | 277 => 125 | n => n, fun | 31 => 62 | 9 => 9 | 3 => 3 | 4 => 4 | 0 => 0 | 20 => 20 | 72 => 128 | 76 => 131 | 70 => 125 | 37 => 126 | 75 => 130 | 127 => 147 | 164 => 150 | 5 => 5 | 80 => 107 | n => n, fun | n => n⟩
theorem sh_lays156 : Go.Proofs.Lays.n156 Tryd.prog sh_lays156_ren := {
  mixed := by kernel_rfl
  f156 := Tryd.func91.trans (congrArg some (by kernel_rfl))
  f165 := Tryd.func112.trans (congrArg some (by kernel_rfl))
  f166 := Tryd.func97.trans (congrArg some (by kernel_rfl))
  f169 := Tryd.func99.trans (congrArg some (by kernel_rfl))
  f240 := Tryd.func115.trans (congrArg some (by kernel_rfl))
  f241 := Tryd.func118.trans (congrArg some (by kernel_rfl))
  f276 := Tryd.func122.trans (congrArg some (by kernel_rfl))
  f277 := Tryd.func125.trans (congrArg some (by kernel_rfl))
  t0 := Tryd.underlying0
  a0 := Tryd.isAgg0
  z0 := Tryd.sizeOf0
  v0 := Tryd.zeroValue0
  t3 := Tryd.underlying3
  a3 := Tryd.isAgg3
  z3 := Tryd.sizeOf3
  v3 := Tryd.zeroValue3
  t4 := Tryd.underlying4
  a4 := Tryd.isAgg4
  z4 := Tryd.sizeOf4
  v4 := Tryd.zeroValue4
  t9 := Tryd.underlying9
  a9 := Tryd.isAgg9
  z9 := Tryd.sizeOf9
  v9 := Tryd.zeroValue9
  t20 := Tryd.underlying20
  a20 := Tryd.isAgg20
  z20 := Tryd.sizeOf20
  v20 := Tryd.zeroValue20
  t31 := Tryd.underlying62
  a31 := Tryd.isAgg62
  z31 := Tryd.sizeOf62
  v31 := Tryd.zeroValue62
  t37 := Tryd.underlying126
  a37 := Tryd.isAgg126
  z37 := Tryd.sizeOf126
  v37 := Tryd.zeroValue126
  t70 := Tryd.underlying125
  a70 := Tryd.isAgg125
  z70 := Tryd.sizeOf125
  v70 := Tryd.zeroValue125
  t72 := Tryd.underlying128
  a72 := Tryd.isAgg128
  z72 := Tryd.sizeOf128
  v72 := Tryd.zeroValue128
  t75 := Tryd.underlying130
  a75 := Tryd.isAgg130
  z75 := Tryd.sizeOf130
  v75 := Tryd.zeroValue130
  t76 := Tryd.underlying131
  a76 := Tryd.isAgg131
  z76 := Tryd.sizeOf131
  v76 := Tryd.zeroValue131
  t127 := Tryd.underlying147
  a127 := Tryd.isAgg147
  z127 := Tryd.sizeOf147
  v127 := Tryd.zeroValue147
  t164 := Tryd.underlying150
  a164 := Tryd.isAgg150
  z164 := Tryd.sizeOf150
  v164 := Tryd.zeroValue150 }
theorem sh_Builder_Extra_156 : Builder.Extra Tryd.prog sh_lays156_ren := {
  sizeBuilder := by kernel_rfl
  liesBuilder := by kernel_rfl
  t5 := Tryd.underlying5
  a5 := Tryd.isAgg5
  z5 := Tryd.sizeOf5
  v5 := Tryd.zeroValue5
  infoByte := by kernel_rfl
  cellsByte := by kernel_rfl
  sizeByte := by kernel_rfl
  neB5 := by decide }
open Go.RowKit in
theorem sh_strings_Join_none (a : Option Addr) (c : Nat) (sep : ByteArray) (w : World) :
    Calls Tryd.prog 91 #[.slice a 0 c, .string sep] w fun e w' => e = .returned (.string ⟨#[]⟩) ∧ w' = w := Any.strings_Join_none sh_lays156 sh_Builder_Extra_156 a c sep w
open Go.RowKit in
theorem sh_strings_Join (bk o c : Nat) (xs : List ByteArray) (sep : ByteArray) (w : World) (hcells : ∀ (j : Nat) x, xs[j]? = some x → w.cell? ⟨bk, o + j, none⟩ = some (.string x)) (hbk : bk < w.heap.size) (hN : xs.length ≤ 140737488355328) (hcap : xs.length ≤ c) (hlen : (Lib.join (xs.map (·.data.toList)) sep.data.toList).length ≤ 140737488355328) :
    Calls Tryd.prog 91 #[.slice (some ⟨bk, o, none⟩) xs.length c, .string sep] w fun e w' => e = .returned (.string ⟨(Lib.join (xs.map (·.data.toList)) sep.data.toList).toArray⟩) ∧ Below w.heap.size w w' := Any.strings_Join sh_lays156 sh_Builder_Extra_156 bk o c xs sep w hcells hbk hN hcap hlen
def sh_lays129_ren : Go.Shelf.Ren := ⟨fun | 129 => 139 | n => n, fun | 53 => 138 | 3 => 3 | 4 => 4 | 46 => 148 | 5 => 5 | 9 => 9 | n => n, fun | n => n⟩
theorem sh_lays129 : Go.Proofs.Lays.n129 Tryd.prog sh_lays129_ren := {
  mixed := by kernel_rfl
  f129 := Tryd.func139.trans (congrArg some (by kernel_rfl))
  t3 := Tryd.underlying3
  a3 := Tryd.isAgg3
  z3 := Tryd.sizeOf3
  v3 := Tryd.zeroValue3
  t4 := Tryd.underlying4
  a4 := Tryd.isAgg4
  z4 := Tryd.sizeOf4
  v4 := Tryd.zeroValue4
  t5 := Tryd.underlying5
  a5 := Tryd.isAgg5
  z5 := Tryd.sizeOf5
  v5 := Tryd.zeroValue5
  t9 := Tryd.underlying9
  a9 := Tryd.isAgg9
  z9 := Tryd.sizeOf9
  v9 := Tryd.zeroValue9
  t46 := Tryd.underlying148
  a46 := Tryd.isAgg148
  z46 := Tryd.sizeOf148
  v46 := Tryd.zeroValue148
  t53 := Tryd.underlying138
  a53 := Tryd.isAgg138
  z53 := Tryd.sizeOf138
  v53 := Tryd.zeroValue138 }
theorem sh_bits_Len64 (x : Int) (w : World) (h0 : 0 ≤ x) (h1 : x ≤ 18446744073709551615) :
    Calls Tryd.prog 139 #[.int .u64 x] w fun e w' => e = .returned (.int .i64 (Lib.bitLen x.toNat)) ∧ w' = w := Any.bits_Len64 sh_lays129 x w h0 h1
def sh_lays317_ren : Go.Shelf.Ren := ⟨fun | 317 => 138 | n => n, fun | 3 => 3 | 46 => 148 | n => n, fun | n => n⟩
theorem sh_lays317 : Go.Proofs.Lays.n317 Tryd.prog sh_lays317_ren := {
  mixed := by kernel_rfl
  f317 := Tryd.func138.trans (congrArg some (by kernel_rfl))
  t3 := Tryd.underlying3
  a3 := Tryd.isAgg3
  z3 := Tryd.sizeOf3
  v3 := Tryd.zeroValue3
  t46 := Tryd.underlying148
  a46 := Tryd.isAgg148
  z46 := Tryd.sizeOf148
  v46 := Tryd.zeroValue148 }
open Go.Lib in
theorem sh_internal_strconv_log10Pow2 (x : Nat) (h : x ≤ 64) (w : World) :
    Calls Tryd.prog 138 #[.int .i64 x] w fun e w' => e = .returned (.int .i64 (Lib.l10 x)) ∧ w' = w := Any.internal_strconv_log10Pow2 sh_lays317 x h w
def sh_lays318_ren : Go.Shelf.Ren := ⟨fun | 318 => 140 | n => n, fun | 3 => 3 | 4 => 4 | n => n, fun | n => n⟩
theorem sh_lays318 : Go.Proofs.Lays.n318 Tryd.prog sh_lays318_ren := {
  mixed := by kernel_rfl
  f318 := Tryd.func140.trans (congrArg some (by kernel_rfl))
  t3 := Tryd.underlying3
  a3 := Tryd.isAgg3
  z3 := Tryd.sizeOf3
  v3 := Tryd.zeroValue3
  t4 := Tryd.underlying4
  a4 := Tryd.isAgg4
  z4 := Tryd.sizeOf4
  v4 := Tryd.zeroValue4 }
open Go.Lib in
theorem sh_internal_strconv_bool2_int (b : Bool) (w : World) :
    Calls Tryd.prog 140 #[.bool b] w fun e w' => e = .returned (.int .i64 (if b then 1 else 0)) ∧ w' = w := Any.internal_strconv_bool2_int sh_lays318 b w
def sh_lays283_ren : Go.Shelf.Ren := ⟨fun | 283 => 132 | n => n, fun | 3 => 3 | 9 => 9 | 4 => 4 | n => n, fun | n => n⟩
theorem sh_lays283 : Go.Proofs.Lays.n283 Tryd.prog sh_lays283_ren := {
  mixed := by kernel_rfl
  f283 := Tryd.func132.trans (congrArg some (by kernel_rfl))
  t3 := Tryd.underlying3
  a3 := Tryd.isAgg3
  z3 := Tryd.sizeOf3
  v3 := Tryd.zeroValue3
  t4 := Tryd.underlying4
  a4 := Tryd.isAgg4
  z4 := Tryd.sizeOf4
  v4 := Tryd.zeroValue4
  t9 := Tryd.underlying9
  a9 := Tryd.isAgg9
  z9 := Tryd.sizeOf9
  v9 := Tryd.zeroValue9 }
open Go.Lib in
theorem sh_internal_strconv_small (i : Nat) (h : i < 100) (w : World) :
    Calls Tryd.prog 132 #[.int .i64 i] w fun e w' => e = .returned (.string ⟨(Lib.decDigits i).toArray⟩) ∧ w' = w := Any.internal_strconv_small sh_lays283 i h w
def sh_lays285_ren : Go.Shelf.Ren := ⟨fun | 285 => 134 | n => n, fun | 37 => 126 | 53 => 138 | 3 => 3 | 4 => 4 | 51 => 169 | 9 => 9 | 5 => 5 | 0 => 0 | n => n, fun | n => n⟩
theorem sh_lays285 : Go.Proofs.Lays.n285 Tryd.prog sh_lays285_ren := {
  mixed := by kernel_rfl
  f285 := Tryd.func134.trans (congrArg some (by kernel_rfl))
  t0 := Tryd.underlying0
  a0 := Tryd.isAgg0
  z0 := Tryd.sizeOf0
  v0 := Tryd.zeroValue0
  t3 := Tryd.underlying3
  a3 := Tryd.isAgg3
  z3 := Tryd.sizeOf3
  v3 := Tryd.zeroValue3
  t4 := Tryd.underlying4
  a4 := Tryd.isAgg4
  z4 := Tryd.sizeOf4
  v4 := Tryd.zeroValue4
  t5 := Tryd.underlying5
  a5 := Tryd.isAgg5
  z5 := Tryd.sizeOf5
  v5 := Tryd.zeroValue5
  t9 := Tryd.underlying9
  a9 := Tryd.isAgg9
  z9 := Tryd.sizeOf9
  v9 := Tryd.zeroValue9
  t37 := Tryd.underlying126
  a37 := Tryd.isAgg126
  z37 := Tryd.sizeOf126
  v37 := Tryd.zeroValue126
  t51 := Tryd.underlying169
  a51 := Tryd.isAgg169
  z51 := Tryd.sizeOf169
  v51 := Tryd.zeroValue169
  t53 := Tryd.underlying138
  a53 := Tryd.isAgg138
  z53 := Tryd.sizeOf138
  v53 := Tryd.zeroValue138 }
open Go.RowKit Go.Sort Go.Lib in
theorem sh_internal_strconv_formatBase10 (blk off cap : Nat) (u : Nat) (d : Array UInt8) (w : World) (hH : Holds (fun (b : UInt8) => Value.int .u8 (b.toNat : Int)) w blk off d) (hu : u < 10 ^ d.size) (hu64 : u < 18446744073709551616) (hsz : d.size < 4611686018427387904) :
    Calls Tryd.prog 134 #[.slice (some ⟨blk, off, none⟩) d.size cap, .int .u64 u] w fun e w' =>
      e = .returned (.tuple #[]) ∧ ∃ (n v' : Nat) (dk : Array UInt8), w' = (putRow (fun (b : UInt8) => Value.int .u8 (b.toNat : Int)) w blk off dk).drewN n ∧ FmtInv d.size u 0 v' dk := Any.internal_strconv_formatBase10 sh_lays285 blk off cap u d w hH hu hu64 hsz
def sh_laysC245_ren : Go.Shelf.Ren := ⟨fun | 245 => 121 | 279 => 128 | 280 => 129 | 281 => 130 | 282 => 131 | 316 => 136 | 171 => 111 | 205 => 137 | 243 => 117 | 246 => 124 | 283 => 132 | 284 => 133 | 285 => 134 | 286 => 135 | 129 => 139 | 317 => 138 | 318 => 140 | 319 => 141 | 320 => 142 | 337 => 143 | 338 => 144 | n => n, fun | 9 => 9 | 3 => 3 | 75 => 130 | 167 => 154 | 4 => 4 | 168 => 156 | 210 => 165 | 37 => 126 | 0 => 0 | 127 => 147 | 145 => 174 | 143 => 172 | 2 => 2 | 171 => 159 | 53 => 138 | 5 => 5 | 173 => 162 | 212 => 168 | 51 => 169 | 20 => 20 | 213 => 170 | 46 => 148 | 232 => 176 | 233 => 177 | 80 => 107 | n => n, fun | 15 => 2 | 16 => 3 | 17 => 4 | 18 => 5 | 19 => 6 | n => n⟩
theorem sh_laysC245 : Go.Proofs.LaysC.n245 Tryd.prog sh_laysC245_ren := {
  mixed := by kernel_rfl
  f129 := Tryd.func139.trans (congrArg some (by kernel_rfl))
  f171 := Tryd.func111.trans (congrArg some (by kernel_rfl))
  f205 := Tryd.func137.trans (congrArg some (by kernel_rfl))
  f243 := Tryd.func117.trans (congrArg some (by kernel_rfl))
  f245 := Tryd.func121.trans (congrArg some (by kernel_rfl))
  f246 := Tryd.func124.trans (congrArg some (by kernel_rfl))
  f279 := Tryd.func128.trans (congrArg some (by kernel_rfl))
  f280 := Tryd.func129.trans (congrArg some (by kernel_rfl))
  f281 := Tryd.func130.trans (congrArg some (by kernel_rfl))
  f282 := Tryd.func131.trans (congrArg some (by kernel_rfl))
  f283 := Tryd.func132.trans (congrArg some (by kernel_rfl))
  f284 := Tryd.func133.trans (congrArg some (by kernel_rfl))
  f285 := Tryd.func134.trans (congrArg some (by kernel_rfl))
  f286 := Tryd.func135.trans (congrArg some (by kernel_rfl))
  f316 := Tryd.func136.trans (congrArg some (by kernel_rfl))
  f317 := Tryd.func138.trans (congrArg some (by kernel_rfl))
  f318 := Tryd.func140.trans (congrArg some (by kernel_rfl))
  f319 := Tryd.func141.trans (congrArg some (by kernel_rfl))
  f320 := Tryd.func142.trans (congrArg some (by kernel_rfl))
  f337 := Tryd.func143.trans (congrArg some (by kernel_rfl))
  f338 := Tryd.func144.trans (congrArg some (by kernel_rfl))
  t0 := Tryd.underlying0
  a0 := Tryd.isAgg0
  z0 := Tryd.sizeOf0
  v0 := Tryd.zeroValue0
  t2 := Tryd.underlying2
  a2 := Tryd.isAgg2
  z2 := Tryd.sizeOf2
  v2 := Tryd.zeroValue2
  t3 := Tryd.underlying3
  a3 := Tryd.isAgg3
  z3 := Tryd.sizeOf3
  v3 := Tryd.zeroValue3
  t4 := Tryd.underlying4
  a4 := Tryd.isAgg4
  z4 := Tryd.sizeOf4
  v4 := Tryd.zeroValue4
  t5 := Tryd.underlying5
  a5 := Tryd.isAgg5
  z5 := Tryd.sizeOf5
  v5 := Tryd.zeroValue5
  t9 := Tryd.underlying9
  a9 := Tryd.isAgg9
  z9 := Tryd.sizeOf9
  v9 := Tryd.zeroValue9
  t20 := Tryd.underlying20
  a20 := Tryd.isAgg20
  z20 := Tryd.sizeOf20
  v20 := Tryd.zeroValue20
  t37 := Tryd.underlying126
  a37 := Tryd.isAgg126
  z37 := Tryd.sizeOf126
  v37 := Tryd.zeroValue126
  t46 := Tryd.underlying148
  a46 := Tryd.isAgg148
  z46 := Tryd.sizeOf148
  v46 := Tryd.zeroValue148
  t51 := Tryd.underlying169
  a51 := Tryd.isAgg169
  z51 := Tryd.sizeOf169
  v51 := Tryd.zeroValue169
  t53 := Tryd.underlying138
  a53 := Tryd.isAgg138
  z53 := Tryd.sizeOf138
  v53 := Tryd.zeroValue138
  t75 := Tryd.underlying130
  a75 := Tryd.isAgg130
  z75 := Tryd.sizeOf130
  v75 := Tryd.zeroValue130
  t127 := Tryd.underlying147
  a127 := Tryd.isAgg147
  z127 := Tryd.sizeOf147
  v127 := Tryd.zeroValue147
  t143 := Tryd.underlying172
  a143 := Tryd.isAgg172
  z143 := Tryd.sizeOf172
  v143 := Tryd.zeroValue172
  t145 := Tryd.underlying174
  a145 := Tryd.isAgg174
  z145 := Tryd.sizeOf174
  v145 := Tryd.zeroValue174
  t167 := Tryd.underlying154
  a167 := Tryd.isAgg154
  z167 := Tryd.sizeOf154
  v167 := Tryd.zeroValue154
  t168 := Tryd.underlying156
  a168 := Tryd.isAgg156
  z168 := Tryd.sizeOf156
  v168 := Tryd.zeroValue156
  t171 := Tryd.underlying159
  a171 := Tryd.isAgg159
  z171 := Tryd.sizeOf159
  v171 := Tryd.zeroValue159
  t173 := Tryd.underlying162
  a173 := Tryd.isAgg162
  z173 := Tryd.sizeOf162
  v173 := Tryd.zeroValue162
  t210 := Tryd.underlying165
  a210 := Tryd.isAgg165
  z210 := Tryd.sizeOf165
  v210 := Tryd.zeroValue165
  t212 := Tryd.underlying168
  a212 := Tryd.isAgg168
  z212 := Tryd.sizeOf168
  v212 := Tryd.zeroValue168
  t213 := Tryd.underlying170
  a213 := Tryd.isAgg170
  z213 := Tryd.sizeOf170
  t232 := Tryd.underlying176
  a232 := Tryd.isAgg176
  z232 := Tryd.sizeOf176
  v232 := Tryd.zeroValue176
  t233 := Tryd.underlying177
  a233 := Tryd.isAgg177
  z233 := Tryd.sizeOf177
  v233 := Tryd.zeroValue177
  g15 := by kernel_rfl
  g16 := by kernel_rfl
  g17 := by kernel_rfl
  g18 := by kernel_rfl
  g19 := by kernel_rfl
  t80 := Tryd.underlying107
  a80 := Tryd.isAgg107
  z80 := Tryd.sizeOf107
  v80 := Tryd.zeroValue107
  i0 := by kernel_rfl
  i2 := by kernel_rfl
  i3 := by kernel_rfl
  i4 := by kernel_rfl
  i5 := by kernel_rfl
  i9 := by kernel_rfl
  i20 := by kernel_rfl
  i37 := by kernel_rfl
  i46 := by kernel_rfl
  i51 := by kernel_rfl
  i53 := by kernel_rfl
  i75 := by kernel_rfl
  i80 := by kernel_rfl
  i127 := by kernel_rfl
  i143 := by kernel_rfl
  i145 := by kernel_rfl
  i167 := by kernel_rfl
  i168 := by kernel_rfl
  i171 := by kernel_rfl
  i173 := by kernel_rfl
  i210 := by kernel_rfl
  i212 := by kernel_rfl
  i232 := by kernel_rfl
  i233 := by kernel_rfl
  m15 := by kernel_rfl
  m16 := by kernel_rfl
  m17 := by kernel_rfl
  m18 := by kernel_rfl
  m19 := by kernel_rfl
  c0 := by kernel_rfl
  c2 := by kernel_rfl
  c3 := by kernel_rfl
  c4 := by kernel_rfl
  c5 := by kernel_rfl
  c9 := by kernel_rfl
  c20 := by kernel_rfl
  c37 := by kernel_rfl
  c46 := by kernel_rfl
  c51 := by kernel_rfl
  c53 := by kernel_rfl
  c75 := by kernel_rfl
  c80 := by kernel_rfl
  c127 := by kernel_rfl
  c143 := by kernel_rfl
  c145 := by kernel_rfl
  c167 := by kernel_rfl
  c168 := by kernel_rfl
  c171 := by kernel_rfl
  c173 := by kernel_rfl
  c210 := by kernel_rfl
  c212 := by kernel_rfl
  c213 := by kernel_rfl
  c232 := by kernel_rfl
  c233 := by kernel_rfl }
open Go.RowKit in
theorem sh_strconv_toError_syntax (fn s : ByteArray) (base bits : Int) (ev : Value) (w : World) (hlim : s.size ≤ 281474976710656) (hv : w.cell? ⟨2, 0, none⟩ = some ev) (hev : ev = .nilIface ∨ ∃ te pe, ev = .iface te pe) :
    Calls Tryd.prog 121 #[.string fn, .string s, .int .i64 base, .int .i64 bits, .iface 154 (.int .i64 2)] w fun e w' => ∃ N, e = .returned (.iface 156 (.pointer (some ⟨N, 0, none⟩))) ∧ w.heap.size ≤ N ∧ w'.heap[N]? = some (.cells #[.string fn, .string s, ev] 165 (0, 0)) ∧ Below w.heap.size w w' := Any.strconv_toError_syntax sh_laysC245 fn s base bits ev w hlim hv hev
open Go.RowKit in
theorem sh_strconv_toError_range (fn s : ByteArray) (base bits : Int) (ev : Value) (w : World) (hlim : s.size ≤ 281474976710656) (hv : w.cell? ⟨3, 0, none⟩ = some ev) (hev : ev = .nilIface ∨ ∃ te pe, ev = .iface te pe) :
    Calls Tryd.prog 121 #[.string fn, .string s, .int .i64 base, .int .i64 bits, .iface 154 (.int .i64 1)] w fun e w' => ∃ N, e = .returned (.iface 156 (.pointer (some ⟨N, 0, none⟩))) ∧ w.heap.size ≤ N ∧ w'.heap[N]? = some (.cells #[.string fn, .string s, ev] 165 (0, 0)) ∧ Below w.heap.size w w' := Any.strconv_toError_range sh_laysC245 fn s base bits ev w hlim hv hev
end Go.Proofs.YtkgdkommahgakaaDoor.Sh

/- strconv.ParseUint at 32 bits as an outside function. -/
namespace Go.Proofs.YtkgdkommahgakaaDoor.Abs
open Go Go.RowKit
set_option linter.unusedVariables false
set_option linter.unusedSimpArgs false
set_option maxRecDepth 100000

theorem sim_below {base G : Nat} {β : Map} {σ : Heap} {w w' : World} (hs : Sim base G β σ w) (h : Below w.heap.size w w') : Sim base G β σ w' ∧ Step β σ w β σ w' := by
  refine ⟨⟨Nat.le_trans hs.size h.size, fun n cb b h1 h2 => ?_, hs.ge, hs.disj, hs.glob⟩, Nat.le_refl _, fun _ _ h => h, fun n h1 h2 => by omega, fun _ _ h => h, fun _ _ h => .inl h, h.size, h.os, h.tape, h.output, fun k hk _ => h.block k hk⟩
  have h3 := hs.holds n cb b h1 h2
  obtain ⟨c, e, frz, hc, _⟩ := h3.obj
  exact h3.later (fun _ _ h => h) (h.block _ (Array.getElem?_eq_some_iff.1 hc).1)
theorem below_cell {w w' : World} (h : Below w.heap.size w w') {a : Addr} {v : Value} (hv : w.cell? a = some v) : w'.cell? a = some v := by
  have hlt : a.block < w.heap.size := by
    rcases Nat.lt_or_ge a.block w.heap.size with h1 | h1
    · exact h1
    · unfold World.cell? at hv
      rw [Array.getElem?_eq_none h1] at hv
      simp at hv
  unfold World.cell? at hv ⊢
  rw [h.block _ hlt]
  exact hv

def puE (b : Nat) (l : List UInt8) : PR := if l = [] then .syn else pu b 0 l
theorem lib120e (b : Int) (w : World) : Calls Tryd.prog 120 #[.string ⟨#[]⟩, .int .i64 b, .int .i64 32] w fun e w' => e = .returned (prV (.iface 154) .syn) ∧ w' = w := by
  go_enter Tryd.func120, Tryd.ntmps120
  go_wp2
  go_ret2
  exact ⟨rfl, rfl⟩
theorem lib120 (b : Nat) (hb : b = 16 ∨ b = 10) (l : List UInt8) (hl : l.length ≤ 9223372036854775806) (w : World) :
    Calls Tryd.prog 120 #[.string (str l), .int .i64 b, .int .i64 32] w fun e w' => e = .returned (prV (.iface 154) (puE b l)) ∧ Below w.heap.size w w' := by
  have hsz : (str l).size = l.length := by simp [str, ByteArray.size]
  have hdl : (str l).data.toList = l := by simp [str]
  by_cases h0 : l = []
  · subst h0
    refine (lib120e b w).mono ?_
    rintro e w' ⟨rfl, rfl⟩
    exact ⟨by rw [puE, if_pos rfl], Below.refl _ _⟩
  · have hne : (str l).size ≠ 0 := by rw [hsz]; exact fun h => h0 (List.eq_nil_of_length_eq_zero h)
    rw [puE, if_neg h0]
    rcases hb with rfl | rfl
    · refine (lib120h (str l) hne (by omega) w).mono ?_
      rintro e w' ⟨rfl, rfl⟩
      rw [hdl]
      exact ⟨rfl, Lib.bytesWorld_below _ _ _⟩
    · refine (lib120d (str l) hne (by omega) w).mono ?_
      rintro e w' ⟨rfl, rfl⟩
      rw [hdl]
      exact ⟨rfl, Lib.bytesWorld_below _ _ _⟩
/-- What strconv.ParseUint returns, told by the fold's result. -/
def prOk : PR → Value → Prop
  | .ok n, v => v = .tuple #[.int .u64 n, .nilIface]
  | .syn, v => ∃ p, v = .tuple #[.int .u64 0, .iface 156 p]
  | .range, v => ∃ p, v = .tuple #[.int .u64 4294967295, .iface 156 p]
def Ifc (v : Value) : Prop := v = .nilIface ∨ ∃ te pe, v = .iface te pe
set_option maxHeartbeats 4000000 in
theorem lib114 (b : Nat) (hb : b = 16 ∨ b = 10) (l : List UInt8) (hl : l.length ≤ 281474976710656) (w : World) (e2 e3 : Value) (h2 : w.cell? ⟨2, 0, none⟩ = some e2) (i2 : Ifc e2) (h3 : w.cell? ⟨3, 0, none⟩ = some e3) (i3 : Ifc e3) :
    Calls Tryd.prog 114 #[.string (str l), .int .i64 b, .int .i64 32] w fun e w' => (∃ v, e = .returned v ∧ prOk (puE b l) v) ∧ Below w.heap.size w w' := by
  have hsz : (str l).size ≤ 281474976710656 := by simpa [str, ByteArray.size] using hl
  have hc := lib120 b hb l (by omega) w
  cases h : puE b l with
  | ok n =>
    rw [h] at hc
    simp only [prV] at hc
    go_enter Tryd.func114, Tryd.ntmps114
    go_wp2_with (go_at_call 120; refine hc.mono ?_; rintro e w' ⟨rfl, hw⟩)
    go_ret2
    exact ⟨⟨_, rfl, rfl⟩, hw⟩
  | syn =>
    rw [h] at hc
    simp only [prV] at hc
    go_enter Tryd.func114, Tryd.ntmps114
    go_wp2_with (first | (go_at_call 120; refine hc.mono ?_; rintro e w' ⟨rfl, hw⟩) | (go_at_call 121; refine (Sh.sh_strconv_toError_syntax _ _ _ _ e2 _ hsz (below_cell hw h2) i2).mono ?_; rintro e w2 ⟨N, rfl, _, _, hw2⟩))
    go_ret2
    exact ⟨⟨_, rfl, _, rfl⟩, hw.trans (hw2.mono hw.size)⟩
  | range =>
    rw [h] at hc
    simp only [prV] at hc
    go_enter Tryd.func114, Tryd.ntmps114
    go_wp2_with (first | (go_at_call 120; refine hc.mono ?_; rintro e w' ⟨rfl, hw⟩) | (go_at_call 121; refine (Sh.sh_strconv_toError_range _ _ _ _ e3 _ hsz (below_cell hw h3) i3).mono ?_; rintro e w2 ⟨N, rfl, _, _, hw2⟩))
    go_ret2
    exact ⟨⟨_, rfl, _, rfl⟩, hw.trans (hw2.mono hw.size)⟩
/-- The variables ErrSyntax and ErrRange hold interfaces. -/
def GE (σ : Heap) : Prop := (∃ t sz, look σ 2 = some ⟨[.iface t junk], false, sz⟩) ∧ ∃ t sz, look σ 3 = some ⟨[.iface t junk], false, sz⟩
theorem GE.mono {σ σ' : Heap} (h : GE σ) (hp : σ <+: σ') : GE σ' := by
  obtain ⟨⟨t, s, h1⟩, t', s', h2⟩ := h
  exact ⟨⟨t, s, look_prefix hp h1⟩, t', s', look_prefix hp h2⟩
theorem glob_iface {base : Nat} {β : Map} {σ : Heap} {w : World} (hs : Sim base Tryd.prog.globals.size β σ w) {g sz : Nat} {t : TypeId} (hg : g < Tryd.prog.globals.size) (h : look σ g = some ⟨[.iface t junk], false, sz⟩) : ∃ e, w.cell? ⟨g, 0, none⟩ = some e ∧ Ifc e := by
  obtain ⟨cb, h1, h2, h3⟩ := hs.glob g hg
  obtain ⟨v', hv, hr⟩ := (hs.holds g cb _ h1 h).cell (i := 0) (v := .iface t junk) rfl
  rw [h2, h3] at hv
  obtain ⟨b, rfl, _⟩ := hr.iface_inv
  exact ⟨_, hv, .inr ⟨_, _, rfl⟩⟩
def prA : PR → Value
  | .ok n => .tuple #[.int .u64 n, .nilIface]
  | .syn => .tuple #[.int .u64 0, .iface 156 junk]
  | .range => .tuple #[.int .u64 4294967295, .iface 156 junk]
/-- strconv.ParseUint at base 16 or 10, 32 bits. -/
def XP : Ext := fun f args σ v σ' => f = 114 ∧ ∃ (l : List UInt8) (b : Nat), (b = 16 ∨ b = 10) ∧ l.length ≤ 281474976710656 ∧ GE σ ∧ args = [.string (str l), .int .i64 b, .int .i64 32] ∧ v = prA (puE b l) ∧ σ' = σ
theorem XP_sound : ∀ f args σ v σ', XP f args σ v σ' → ∀ base, CallSound Tryd.prog base f args σ v σ' ∧ σ.length ≤ σ'.length := by
  rintro f args σ v σ' ⟨rfl, l, b, hb, hl, hG, rfl, rfl, rfl⟩ base
  refine ⟨fun β w cargs hrel hs hf => ?_, Nat.le_refl _⟩
  obtain ⟨cl⟩ := cargs
  simp only at hrel
  obtain ⟨x, y, z, rfl, h, h2, h3⟩ : ∃ x y z, cl = [x, y, z] ∧ Rel β (.string (str l)) x ∧ Rel β (.int .i64 b) y ∧ Rel β (.int .i64 32) z := by
    match cl, hrel with
    | [x, y, z], .cons _ _ _ _ h (.cons _ _ _ _ h2 (.cons _ _ _ _ h3 .nil)) => exact ⟨x, y, z, rfl, h, h2, h3⟩
  obtain rfl := h.string_inv
  obtain rfl := h2.int_inv
  obtain rfl := h3.int_inv
  obtain ⟨⟨t2, s2, g2⟩, t3, s3, g3⟩ := hG
  obtain ⟨e2, c2, i2⟩ := glob_iface hs (by exact (show 2 < 7 by omega)) g2
  obtain ⟨e3, c3, i3⟩ := glob_iface hs (by exact (show 3 < 7 by omega)) g3
  refine (lib114 b hb l hl w e2 e3 c2 i2 c3 i3).mono fun e w' hh => ?_
  obtain ⟨⟨v, rfl, hv⟩, hw⟩ := hh
  obtain ⟨s1, s2⟩ := sim_below hs hw
  refine ⟨β, v, rfl, ?_, s1, s2⟩
  cases hp : puE b l with
  | ok n => rw [hp] at hv; rw [hv]; exact .tuple _ _ (.cons _ _ _ _ (.scal _ rfl) (.cons _ _ _ _ (.scal _ rfl) .nil))
  | syn => rw [hp] at hv; obtain ⟨p, rfl⟩ := hv; exact .tuple _ _ (.cons _ _ _ _ (.scal _ rfl) (.cons _ _ _ _ (.iface _ _ _ (.any _)) .nil))
  | range => rw [hp] at hv; obtain ⟨p, rfl⟩ := hv; exact .tuple _ _ (.cons _ _ _ _ (.scal _ rfl) (.cons _ _ _ _ (.iface _ _ _ (.any _)) .nil))
end Go.Proofs.YtkgdkommahgakaaDoor.Abs

/- strconv.Itoa of a number of 32 bits, from the cells of the table of powers; as an outside function. -/
namespace Go.Proofs.YtkgdkommahgakaaDoor.Abs
open Go Go.RowKit
set_option linter.unusedVariables false
set_option linter.unusedSimpArgs false
set_option maxRecDepth 100000

/-- The table's cells. -/
def P10 (w : World) : Prop := ∀ i, i < 20 → w.cell? ⟨4, i, none⟩ = some (.int .u64 ((10 ^ i : Nat) : Int))
theorem P10.below {w w' : World} (h : P10 w) (hb : Below w.heap.size w w') : P10 w' := fun i hi => below_cell hb (h i hi)
set_option maxHeartbeats 4000000 in
theorem lib133 (u : Nat) (h1 : 1 ≤ u) (h2 : u < 18446744073709551616) (w : World) (htab : P10 w) :
    Calls Tryd.prog 133 #[.int .u64 u] w fun e w' => e = .returned (.int .i64 (Lib.nDigits u)) ∧ w' = w := by
  obtain ⟨hnd, h19⟩ := Lib.numDigits_eq u h1 h2
  have hL : Lib.bitLen u ≤ 64 := Lib.bitLen_le u 64 (Nat.le_refl _) h2
  have hcell := htab (Lib.l10 (Lib.bitLen u)) (by omega)
  have hto : ((u : Int)).toNat = u := by omega
  generalize hq : Lib.l10 (Lib.bitLen u) = q at hnd h19 hcell
  generalize hT : 10 ^ q = T at hnd hcell
  have h20 : q < 20 := by omega
  have Hnd := Lib.hid hnd
  clear hnd htab
  go_enter Tryd.func133, Tryd.ntmps133
  go_wp2_with (first
    | (go_at_call 139; refine (Sh.sh_bits_Len64 _ _ (by omega) (by omega)).mono ?_; rintro e w' ⟨rfl, rfl⟩)
    | (go_at_call 138; refine (Sh.sh_internal_strconv_log10Pow2 _ (by first | exact hL | (rw [hto]; exact hL)) _).mono ?_; rintro e w' ⟨rfl, rfl⟩)
    | (go_at_call 140; refine (Sh.sh_internal_strconv_bool2_int _ _).mono ?_; rintro e w' ⟨rfl, rfl⟩))
  all_goals go_ret
  all_goals (
    refine ⟨?_, rfl⟩
    have hnd := Hnd.out
    congr 2
    split at hnd <;> simp_all <;> omega)
theorem below_grow (w : World) (k : Nat) (os : Array Obj) : Below w.heap.size w (Go.Sort.grow (w.drewN k) os) := by
  refine ⟨rfl, rfl, rfl, by simp [Go.Sort.grow], fun j hj => ?_⟩
  simp only [Go.Sort.grow, World.heap_drewN]
  rw [Array.getElem?_append_left (by simpa using hj)]
set_option maxHeartbeats 8000000 in
theorem lib124 (u : Nat) (hu : u ≤ 4294967295) (w : World) (htab : P10 w) :
    Calls Tryd.prog 124 #[.int .i64 u, .int .i64 10] w fun e w' => e = .returned (.string ⟨(Lib.decDigits u).toArray⟩) ∧ Below w.heap.size w w' := by
  by_cases hs : u < 100
  · have c0 : (0 : Int) ≤ (u : Int) := by omega
    have c1 : (u : Int) < 100 := by omega
    go_enter Tryd.func124, Tryd.ntmps124
    go_wp2_with (go_at_call 132; refine (Sh.sh_internal_strconv_small u hs _).mono ?_; rintro e w' ⟨rfl, rfl⟩)
    go_ret
    exact ⟨rfl, Below.refl _ _⟩
  · have c0 : (0 : Int) ≤ (u : Int) := by omega
    have c1 : ¬ (u : Int) < 100 := by omega
    have c2 : ¬ (u : Int) < 0 := by omega
    have hu1 : 1 ≤ u := by omega
    have hu64 : u < 18446744073709551616 := by omega
    have hnd20 : Lib.nDigits u ≤ 20 := by have := Lib.numDigits_eq u hu1 hu64; split at this <;> omega
    have hb3 : Lib.nDigits u ≤ 23 := by omega
    have hal : Tryd.prog.arrayLen 159 = 24 := by kernel_rfl
    have hsl1 : ∀ W, (Instr.sliceAt 159 (.pointer (some ⟨w.heap.size, 0, none⟩)) (some (.int .i64 1)) (some (.int .i64 (1 + (Lib.nDigits u : Int)))) none).run Tryd.prog W = .ok (.slice (some ⟨w.heap.size, 1, none⟩) (Lib.nDigits u) 23) W := fun W => by
      rw [run_sliceAt_array_lh W 159 ⟨w.heap.size, 0, none⟩ (by simp [Program.arrayLen, Program.elem, Tryd.underlying159]) .i64 .i64 1 (1 + (Lib.nDigits u : Int)) (by omega) (by omega) (by rw [hal]; omega)]
      go_simp
      omega
    have hH0 := Lib.holds_zero w 159 (Lib.nDigits u) (by omega)
    have hfmt := Sh.sh_internal_strconv_formatBase10 w.heap.size 1 23 u (Array.replicate (Lib.nDigits u) 0) (w.alloc (.cells Lib.zeros24 159)) hH0 (by rw [Array.size_replicate]; exact Lib.lt_pow_nDigits u) hu64 (by rw [Array.size_replicate]; omega)
    rw [Array.size_replicate] at hfmt
    have HH0 := Lib.hid hH0
    have htab' : P10 (w.alloc (.cells Lib.zeros24 159)) := htab.below ((Below.refl _ w).alloc (Nat.le_refl _) _)
    clear hH0 hal hs htab
    go_enter Tryd.func124, Tryd.ntmps124
    go_wp2_with (first
      | (go_at_call 133; refine (lib133 u hu1 hu64 _ htab').mono ?_; rintro e w' ⟨rfl, rfl⟩))
    go_at_call 134
    refine hfmt.mono ?_
    rintro e w' ⟨rfl, k, v', dk, rfl, hF⟩
    have hcv : (convert 126 9 (.slice (some ⟨w.heap.size, 1, none⟩) (Lib.nDigits u) 23)).run Tryd.prog ((Go.Sort.putRow (fun (b : UInt8) => Value.int .u8 (b.toNat : Int)) (w.alloc (.cells Lib.zeros24 159)) w.heap.size 1 dk).drewN k) = .ok (.string ⟨(Lib.decDigits u).toArray⟩) ((Go.Sort.putRow (fun (b : UInt8) => Value.int .u8 (b.toNat : Int)) (w.alloc (.cells Lib.zeros24 159)) w.heap.size 1 dk).drewN k) := by
      have h := run_convert_bytes_back (P := Tryd.prog) ((Go.Sort.putRow (fun (b : UInt8) => Value.int .u8 (b.toNat : Int)) (w.alloc (.cells Lib.zeros24 159)) w.heap.size 1 dk).drewN k) 126 9 5 ⟨w.heap.size, 1, none⟩ 23 (Lib.decDigits u) Tryd.underlying126 Tryd.underlying5 Tryd.underlying9 (fun j hj => by
        rw [Lib.row_is_numeral hF j hj, Lib.add_plain, World.cell?_drewN]
        exact Go.Sort.cell?_putRow (fun (b : UInt8) => Value.int .u8 (b.toNat : Int)) _ w.heap.size 1 _ dk HH0.out (by rw [hF.size, Array.size_replicate]) j (by rw [hF.size]; rw [Lib.decDigits_length] at hj; exact hj))
      rw [Lib.decDigits_length] at h
      exact h
    go_wp2
    go_ret
    obtain ⟨os, eo⟩ := Lib.fin_pos w (.cells Lib.zeros24 159) dk k
    refine ⟨rfl, ?_⟩
    rw [eo]
    exact below_grow _ _ _
theorem lib117 (u : Nat) (hu : u ≤ 4294967295) (w : World) (htab : P10 w) :
    Calls Tryd.prog 117 #[.int .i64 u] w fun e w' => e = .returned (.string ⟨(Lib.decDigits u).toArray⟩) ∧ Below w.heap.size w w' := by
  go_enter Tryd.func117, Tryd.ntmps117
  go_wp2_with (go_at_call 124; refine (lib124 u hu _ htab).mono ?_; rintro e w' ⟨rfl, hw⟩)
  go_ret
  exact ⟨rfl, hw⟩
theorem lib111 (u : Nat) (hu : u ≤ 4294967295) (w : World) (htab : P10 w) :
    Calls Tryd.prog 111 #[.int .i64 u] w fun e w' => e = .returned (.string ⟨(Lib.decDigits u).toArray⟩) ∧ Below w.heap.size w w' := by
  go_enter Tryd.func111, Tryd.ntmps111
  go_wp2_with (go_at_call 117; refine (lib117 u hu _ htab).mono ?_; rintro e w' ⟨rfl, hw⟩)
  go_ret
  exact ⟨rfl, hw⟩
def p10 : List Value := (List.range 20).map fun i => .int .u64 ((10 ^ i : Nat) : Int)
def GP (σ : Heap) : Prop := ∃ sz, look σ 4 = some ⟨p10, false, sz⟩
theorem GP.mono {σ σ' : Heap} (h : GP σ) (hp : σ <+: σ') : GP σ' := by
  obtain ⟨s, h⟩ := h
  exact ⟨s, look_prefix hp h⟩
/-- strconv.Itoa of a number of 32 bits. -/
def XI : Ext := fun f args σ v σ' => f = 111 ∧ ∃ u : Nat, u ≤ 4294967295 ∧ GP σ ∧ args = [.int .i64 u] ∧ v = .string (str (Lib.decDigits u)) ∧ σ' = σ
theorem XI_sound : ∀ f args σ v σ', XI f args σ v σ' → ∀ base, CallSound Tryd.prog base f args σ v σ' ∧ σ.length ≤ σ'.length := by
  rintro f args σ v σ' ⟨rfl, u, hu, ⟨sz, hG⟩, rfl, rfl, rfl⟩ base
  refine ⟨fun β w cargs hrel hs hf => ?_, Nat.le_refl _⟩
  obtain ⟨cl⟩ := cargs
  simp only at hrel
  obtain ⟨x, rfl, h⟩ : ∃ x, cl = [x] ∧ Rel β (.int .i64 u) x := by
    match cl, hrel with
    | [x], .cons _ _ _ _ h .nil => exact ⟨x, rfl, h⟩
  obtain rfl := h.int_inv
  have htab : P10 w := fun i hi => by
    obtain ⟨cb, h1, h2, h3⟩ := hs.glob 4 (by exact (show 4 < 7 by omega))
    obtain ⟨v', hv, hr⟩ := (hs.holds 4 cb _ h1 hG).cell (i := i) (v := .int .u64 ((10 ^ i : Nat) : Int)) (by simp [p10, hi])
    rw [h2, h3, Nat.zero_add] at hv
    obtain rfl := hr.int_inv
    exact hv
  refine (lib111 u hu w htab).mono fun e w' hh => ?_
  obtain ⟨rfl, hw⟩ := hh
  obtain ⟨s1, s2⟩ := sim_below hs hw
  exact ⟨β, _, rfl, .scal _ rfl, s1, s2⟩
end Go.Proofs.YtkgdkommahgakaaDoor.Abs

/- strings.Join as an outside function; the outside of the token laws. -/
namespace Go.Proofs.YtkgdkommahgakaaDoor.Abs
open Go Go.RowKit
set_option linter.unusedVariables false
set_option linter.unusedSimpArgs false
set_option maxRecDepth 100000

/-- A row of strings that the program built, or nil. -/
def TS (σ : Heap) (L : List (List UInt8)) (v : Value) : Prop := (v = .slice none 0 0 ∧ L = []) ∨ ∃ n c ow, v = .slice (some ⟨n, 0, none⟩) L.length c ∧ look σ n = some ⟨L.map vstr, ow, 1⟩
def XJ : Ext := fun f args σ v σ' => f = 91 ∧ ∃ (L : List (List UInt8)) (sep : List UInt8) (x : Value), TS σ L x ∧ L.length ≤ 140737488355328 ∧ (Lib.join L sep).length ≤ 140737488355328 ∧ args = [x, .string (str sep)] ∧ v = .string (str (Lib.join L sep)) ∧ σ' = σ
theorem XJ_sound : ∀ f args σ v σ', XJ f args σ v σ' → ∀ base, CallSound Tryd.prog base f args σ v σ' ∧ σ.length ≤ σ'.length := by
  rintro f args σ v σ' ⟨rfl, L, sep, x, hT, hL, hJ, rfl, rfl, rfl⟩ base
  refine ⟨fun β w cargs hrel hs hf => ?_, Nat.le_refl _⟩
  obtain ⟨cl⟩ := cargs
  simp only at hrel
  obtain ⟨y, z, rfl, h, h2⟩ : ∃ y z, cl = [y, z] ∧ Rel β x y ∧ Rel β (.string (str sep)) z := by
    match cl, hrel with
    | [y, z], .cons _ _ _ _ h (.cons _ _ _ _ h2 .nil) => exact ⟨y, z, rfl, h, h2⟩
  obtain rfl := h2.string_inv
  have hd : ∀ l : List UInt8, (str l).data.toList = l := fun l => by simp [str]
  rcases hT with ⟨rfl, rfl⟩ | ⟨n, c, ow, rfl, hk⟩
  · obtain rfl : y = .slice none 0 0 := by
      rcases h.slc_inv with ⟨_, _, _, rfl⟩ | ⟨_, h0, _⟩ | ⟨_, _, _, _, h0, _⟩
      · rfl
      · simp at h0
      · simp at h0
    refine (Sh.sh_strings_Join_none none 0 (str sep) w).mono fun e w' hh => ?_
    obtain ⟨rfl, rfl⟩ := hh
    exact ⟨β, _, rfl, .scal _ rfl, hs, Step.refl _ _ _⟩
  · by_cases h0 : L = []
    · subst h0
      obtain ⟨a, c', rfl⟩ : ∃ a c', y = .slice a 0 c' := by
        rcases h.slc_inv with ⟨h0, _⟩ | ⟨_, _, _, _⟩ | ⟨_, _, _, _, _, _, _, _, _, rfl⟩
        · simp at h0
        · obtain ⟨y', rfl⟩ := ‹∃ y_1, y = Value.slice y_1 0 0›
          exact ⟨_, _, rfl⟩
        · exact ⟨_, _, rfl⟩
      refine (Sh.sh_strings_Join_none a c' (str sep) w).mono fun e w' hh => ?_
      obtain ⟨rfl, rfl⟩ := hh
      exact ⟨β, _, rfl, .scal _ rfl, hs, Step.refl _ _ _⟩
    · obtain ⟨o, c', cb, h3, h4, h5, rfl⟩ : ∃ o c' cb, o = 0 ∧ β n = some cb ∧ L.length ≤ c' ∧ y = .slice (some ⟨cb.blk, cb.off + 0, none⟩) L.length c' := by
        rcases h.slc_inv with ⟨h1, _⟩ | ⟨_, _, h1, _⟩ | ⟨n', o', c', cb, h1, h2, h3, _, _, h4⟩
        · simp at h1
        · exact absurd (List.eq_nil_of_length_eq_zero h1) h0
        · simp only [Option.some.injEq, Addr.mk.injEq, and_true] at h1
          obtain ⟨rfl, rfl⟩ := h1
          exact ⟨0, c', cb, rfl, h2, h3, h4⟩
      have hH := hs.holds n cb _ h4 hk
      have hmm : (L.map str).map (·.data.toList) = L := by simp [str, Function.comp_def]
      have hcells : ∀ (j : Nat) x, (L.map str)[j]? = some x → w.cell? ⟨cb.blk, cb.off + 0 + j, none⟩ = some (.string x) := fun j x hx => by
        rw [List.getElem?_map] at hx
        obtain ⟨l, hl, rfl⟩ := Option.map_eq_some_iff.1 hx
        obtain ⟨v', hv, hr⟩ := hH.cell (i := j) (v := .string (str l)) (by simp [hl, vstr])
        obtain rfl := hr.string_inv
        rw [Nat.add_zero]
        exact hv
      have hbk : cb.blk < w.heap.size := by
        obtain ⟨c, e, frz, hc, _⟩ := hH.obj
        exact (Array.getElem?_eq_some_iff.1 hc).1
      have hj := Sh.sh_strings_Join cb.blk (cb.off + 0) c' (L.map str) (str sep) w hcells hbk (by simpa using hL) (by simpa using h5) (by rw [hmm, hd]; exact hJ)
      rw [hmm, hd, List.length_map] at hj
      refine hj.mono fun e w' hh => ?_
      obtain ⟨rfl, hw⟩ := hh
      obtain ⟨s1, s2⟩ := sim_below hs hw
      exact ⟨β, _, rfl, .scal _ rfl, s1, s2⟩
/-- The outside of the token laws. -/
def XT : Ext := fun f args σ v σ' => XL f args σ v σ' ∨ XP f args σ v σ' ∨ XI f args σ v σ' ∨ XJ f args σ v σ'
theorem XT_sound : ∀ f args σ v σ', XT f args σ v σ' → ∀ base, CallSound Tryd.prog base f args σ v σ' ∧ σ.length ≤ σ'.length := by
  rintro f args σ v σ' (h | h | h | h) base
  · exact XL_sound f args σ v σ' h base
  · exact XP_sound f args σ v σ' h base
  · exact XI_sound f args σ v σ' h base
  · exact XJ_sound f args σ v σ' h base
theorem xl_xt : ∀ f args σ v σ', XL f args σ v σ' → XT f args σ v σ' := fun _ _ _ _ _ h => .inl h
theorem f114_ok (l : List UInt8) (b : Nat) (hb : b = 16 ∨ b = 10) (hl : l.length ≤ 281474976710656) (σ : Heap) (hG : GE σ) : CW Tryd.prog XT 114 [.string (str l), .int .i64 b, .int .i64 32] σ fun v σ' => v = prA (puE b l) ∧ σ' = σ :=
  ⟨by kernel_rfl, _, _, .ext (.inr (.inl ⟨rfl, l, b, hb, hl, hG, rfl, rfl, rfl⟩)), rfl, rfl⟩
theorem f111_ok (u : Nat) (hu : u ≤ 4294967295) (σ : Heap) (hG : GP σ) : CW Tryd.prog XT 111 [.int .i64 u] σ fun v σ' => v = .string (str (Lib.decDigits u)) ∧ σ' = σ :=
  ⟨by kernel_rfl, _, _, .ext (.inr (.inr (.inl ⟨rfl, u, hu, hG, rfl, rfl, rfl⟩))), rfl, rfl⟩
theorem f91_ok (L : List (List UInt8)) (sep : List UInt8) (x : Value) (σ : Heap) (hT : TS σ L x) (hL : L.length ≤ 140737488355328) (hJ : (Lib.join L sep).length ≤ 140737488355328) : CW Tryd.prog XT 91 [x, .string (str sep)] σ fun v σ' => v = .string (str (Lib.join L sep)) ∧ σ' = σ :=
  ⟨by kernel_rfl, _, _, .ext (.inr (.inr (.inr ⟨rfl, L, sep, x, hT, hL, hJ, rfl, rfl, rfl⟩))), rfl, rfl⟩
end Go.Proofs.YtkgdkommahgakaaDoor.Abs
