/-
  Walks of the leaves of the layer wal: checks and numbers.
-/
import Derived.Test.YtjnbbfhoegeppaaDoorRows
import Derived.Test.YtjnbbfhoegeppaaDoorWalFns
import Derived.Deep.QuietTactic
import Derived.BigQuiet
import Derived.StillTailTactics
import Derived.Deep.RegionWith
set_option linter.unusedSimpArgs false
set_option linter.unusedVariables false
namespace Go.Proofs.YtjnbbfhoegeppaaDoor
open Go.RowKit Go.Cv Go.Cv.Wal

theorem u8info : (Tryd.prog.info? 5).map (fun i => (i.zero, i.size, i.bytes)) = some (some (.int .u8 0), 1, 1) := by kernel_rfl
theorem rowinfo : (Tryd.prog.info? 22).map (fun i => (i.zero, i.size, i.bytes)) = some (some (.slice none 0 0), 1, 24) := by kernel_rfl

set_option maxHeartbeats 400000 in
theorem on_any (c : UInt32) (A : Option Addr) (n cap : Nat) (l : List UInt8) (w : World) (hn : l.length = n) (hr : Rd w A (l.map bv)) (hm : n ≤ 140737488355328) :
    Calls Tryd.prog 32 #[.int .u32 (n32 c), .slice A n cap] w fun e w' => e = .returned (.int .u32 (n32 (crc c l))) ∧ w = w' := by
  subst hn
  go_enter Tryd.func32, Tryd.ntmps32
  go_wp2
  go_loop [0, 6, 9, 17] (fun t0 _ i _ => ∃ k : Nat, k ≤ l.length ∧ i = .int .i64 k ∧ t0 = .int .u32 (n32 (crc c (l.take k)))) (fun _ _ i _ => l.length - (intOf i).toNat)
  case atStart => exact ⟨0, Nat.zero_le _, rfl, rfl⟩
  case round =>
    obtain ⟨k, hk, rfl, rfl⟩ := hrel
    by_cases hlt : k < l.length
    · obtain ⟨ad, rfl, hc⟩ := hr.at_ (k := k) (by simpa using hlt)
      rw [List.getElem_map] at hc
      have HS : Hid (crc c (l.take (k + 1)) = crcByte (crc c (l.take k)) l[k]) := by
        show crc c (l.take (k + 1)) = _
        rw [List.take_succ_eq_append_getElem hlt, crc_snoc]
      generalize crc c (l.take k) = c0 at *
      go_wp2
      go_loop [0, 17] (fun t0 j => ∃ m : Nat, m ≤ 8 ∧ j = .int .i64 m ∧ t0 = .int .u32 (n32 (crcBits m (c0 ^^^ l[k].toUInt32)))) (fun _ j => 8 - (intOf j).toNat)
      case atStart => exact ⟨0, by omega, rfl, rfl⟩
      case round =>
        obtain ⟨m, hm8, rfl, rfl⟩ := hrel
        by_cases hlt8 : m < 8
        · go_wp2
          go_round
          case rel => exact ⟨m + 1, by omega, by go_num, rfl⟩
          case measure => simp [intOf]; omega
        · obtain rfl : m = 8 := by omega
          go_wp2
          go_round
          case rel => exact ⟨k + 1, by omega, by go_num, by rw [HS.out]; rfl⟩
          case measure => simp [intOf]; omega
    · go_wp2
      go_ret
      exact ⟨by rw [List.take_of_length_le (by omega)]; rfl, rfl⟩

set_option maxHeartbeats 400000 in
theorem on_first (A : Option Addr) (n cap : Nat) (l : List UInt8) (w : World) (hn : l.length = n) (hr : Rd w A (l.map bv)) (hm : n ≤ 140737488355328) :
    Calls Tryd.prog 32 #[.int .u32 4294967295, .slice A n cap] w fun e w' => e = .returned (.int .u32 (n32 (crc 4294967295 l))) ∧ w = w' :=
  on_any 4294967295 A n cap l w hn hr hm
set_option maxHeartbeats 400000 in
theorem check_any (A : Option Addr) (n cap : Nat) (l : List UInt8) (w : World) (hn : l.length = n) (hr : Rd w A (l.map bv)) (hm : n ≤ 140737488355328) :
    Calls Tryd.prog 19 #[.slice A n cap] w fun e w' => e = .returned (.int .u32 (n32 (check l))) ∧ w = w' := by
  go_enter Tryd.func19, Tryd.ntmps19
  go_wp2_with fail
  refine (on_first A n cap l w hn hr hm).mono ?_
  rintro e w' ⟨rfl, rfl⟩
  go_wp2
  go_ret
  exact ⟨rfl, rfl⟩

set_option maxHeartbeats 400000 in
theorem rcheck_any (A : Option Addr) (n cap : Nat) (l : List UInt8) (w : World) (hn : l.length = n) (hr : Rd w A (l.map bv)) (hm : n ≤ 140737488355328) :
    Calls Tryd.prog 38 #[.slice A n cap] w fun e w' => e = .returned (.int .u32 (n32 (check l))) ∧ w = w' := by
  subst hn
  go_enter Tryd.func38, Tryd.ntmps38
  go_wp2
  go_loop [3, 4, 5] (fun t0 i _ => ∃ k : Nat, k ≤ l.length ∧ i = .int .i64 k ∧ t0 = .int .u32 (n32 (crc 4294967295 (l.take k)))) (fun _ i _ => l.length - (intOf i).toNat)
  case atStart => exact ⟨0, Nat.zero_le _, rfl, rfl⟩
  case round =>
    obtain ⟨k, hk, rfl, rfl⟩ := hrel
    by_cases hlt : k < l.length
    · obtain ⟨ad, rfl, hc⟩ := hr.at_ (k := k) (by simpa using hlt)
      rw [List.getElem_map] at hc
      have HS : Hid (crc 4294967295 (l.take (k + 1)) = crcByte (crc 4294967295 (l.take k)) l[k]) := by
        show crc 4294967295 (l.take (k + 1)) = _
        rw [List.take_succ_eq_append_getElem hlt, crc_snoc]
      generalize crc 4294967295 (l.take k) = c0 at *
      go_wp2
      go_loop [3, 5] (fun t0 j => ∃ m : Nat, m ≤ 8 ∧ j = .int .i64 m ∧ t0 = .int .u32 (n32 (crcBits m (c0 ^^^ l[k].toUInt32)))) (fun _ j => 8 - (intOf j).toNat)
      case atStart => exact ⟨0, by omega, rfl, rfl⟩
      case round =>
        obtain ⟨m, hm8, rfl, rfl⟩ := hrel
        by_cases hlt8 : m < 8
        · have HB : Hid (crcBits (m + 1) (c0 ^^^ l[k].toUInt32) = crcBit' (crcBits m (c0 ^^^ l[k].toUInt32))) := by
            show crcBits (m + 1) (c0 ^^^ l[k].toUInt32) = _
            rw [crcBit_eq]; rfl
          generalize crcBits m (c0 ^^^ l[k].toUInt32) = c1 at *
          rcases hodd : (c1 % 2 == 1) with _ | _
          · have HT : Hid (crcBit' c1 = c1 / 2) := by show crcBit' c1 = _; unfold crcBit'; rw [hodd]; rfl
            go_wp2
            go_round
            case rel => exact ⟨m + 1, by omega, by go_num, by rw [HB.out, HT.out]⟩
            case measure => simp [intOf]; omega
          · have HT : Hid (crcBit' c1 = c1 / 2 ^^^ 3988292384) := by show crcBit' c1 = _; unfold crcBit'; rw [hodd]; rfl
            go_wp2
            go_round
            case rel => exact ⟨m + 1, by omega, by go_num, by rw [HB.out, HT.out]⟩
            case measure => simp [intOf]; omega
        · obtain rfl : m = 8 := by omega
          go_wp2
          go_round
          case rel => exact ⟨k + 1, by omega, by go_num, by rw [HS.out]; rfl⟩
          case measure => simp [intOf]; omega
    · have HX : Hid (check l = crc 4294967295 (l.take k) ^^^ 4294967295) := by
        show check l = _
        rw [List.take_of_length_le (by omega)]
        show ~~~(crc 4294967295 l) = _
        exact not32 _
      go_wp2
      go_ret
      exact ⟨by rw [HX.out]; rfl, rfl⟩

/-- The call made a row of bytes. -/
def RetBytes (w : World) (n : Nat) (l : List UInt8) (e : Ending) (w' : World) : Prop :=
  ∃ A c, e = .returned (.slice A n c) ∧ Ext w w' ∧ w'.ownsRow w.heap.size 5 1 (.slice A n c) n (l.map bv) ∧ n ≤ c ∧ c ≤ maxLen ∧ Rd w' A (l.map bv)
theorem RetBytes.mk_ {w w' : World} {n : Nat} {l : List UInt8} {A : Option Addr} {c : Nat} (hx : Ext w w') (ho : w'.ownsRow w.heap.size 5 1 (.slice A n c) n (l.map bv)) : RetBytes w n l (.returned (.slice A n c)) w' := by
  obtain ⟨A', c', h, hc, hm, hr, _⟩ := own_form ho
  injection h with h1 h2 h3
  subst h1; subst h3
  exact ⟨A, c, rfl, hx, ho, hc, hm, hr⟩
theorem u8row : RowT Tryd.prog 22 5 1 := RowT.of Tryd.underlying22 u8info rfl
theorem rowrow : RowT Tryd.prog 23 22 24 := RowT.of Tryd.underlying23 rowinfo rfl

set_option maxHeartbeats 400000 in
theorem bytes_any (v : UInt32) (w : World) : Calls Tryd.prog 31 #[.int .u32 (n32 v)] w (RetBytes w 4 (le4 v)) := by
  go_enter Tryd.func31, Tryd.ntmps31
  go_wp2
  go_ret
  refine RetBytes.mk_ (ext_alloc _ _) ⟨by simp [le4], .inr ⟨w.heap.size, 4, _, rfl, Nat.le_refl _, heap_alloc_new w _, by decide, by simp [maxLen], rfl, rfl⟩⟩

set_option maxHeartbeats 400000 in
theorem four_any (v : UInt32) (w : World) : Calls Tryd.prog 37 #[.int .u32 (n32 v)] w (RetBytes w 4 (le4 v)) := by
  go_enter Tryd.func37, Tryd.ntmps37
  go_wp2
  go_ret
  refine RetBytes.mk_ (ext_alloc _ _) ⟨by simp [le4], .inr ⟨w.heap.size, 4, _, rfl, Nat.le_refl _, heap_alloc_new w _, by decide, by simp [maxLen], rfl, ?_⟩⟩
  rw [← le4_eq]; rfl

set_option maxHeartbeats 400000 in
theorem word_any (a b c d : UInt8) (r : List UInt8) (A : Option Addr) (n cap : Nat) (w : World) (hn : 4 ≤ n) (hr : Rd w A ((a :: b :: c :: d :: r).map bv)) :
    Calls Tryd.prog 33 #[.slice A n cap] w fun e w' => e = .returned (.int .u32 (n32 (word4 a b c d))) ∧ ∃ m, w' = w.drewN m := by
  obtain ⟨ad, rfl, h0⟩ := hr 0 (bv a) rfl
  obtain ⟨_, h, h1⟩ := hr 1 (bv b) rfl; injection h with h; subst h
  obtain ⟨_, h, h2⟩ := hr 2 (bv c) rfl; injection h with h; subst h
  obtain ⟨_, h, h3⟩ := hr 3 (bv d) rfl; injection h with h; subst h
  have hi0 : 0 < n := by omega
  have h0' : w.cell? ad = some (bv a) := h0
  have h1' : w.cell? ⟨ad.block, ad.off + 1, none⟩ = some (bv b) := h1
  have h2' : w.cell? ⟨ad.block, ad.off + 2, none⟩ = some (bv c) := h2
  have h3' : w.cell? ⟨ad.block, ad.off + 3, none⟩ = some (bv d) := h3
  clear h0 h1 h2 h3
  have hi1 : (1 : Int) < (n : Int) := by omega
  have hi2 : (2 : Int) < (n : Int) := by omega
  have hi3 : (3 : Int) < (n : Int) := by omega
  clear hr
  go_enter Tryd.func33, Tryd.ntmps33
  go_wp2
  go_quiet (fail)
  go_wp2
  go_ret
  exact ⟨rfl, _, rfl⟩

set_option maxHeartbeats 400000 in
theorem number_any (a b c d : UInt8) (r : List UInt8) (A : Option Addr) (n cap : Nat) (w : World) (hn : 4 ≤ n) (hr : Rd w A ((a :: b :: c :: d :: r).map bv)) :
    Calls Tryd.prog 26 #[.slice A n cap] w fun e w' => e = .returned (.int .i64 (num4 a b c d : Nat)) ∧ ∃ m, w' = w.drewN m := by
  obtain ⟨ad, rfl, h0⟩ := hr 0 (bv a) rfl
  obtain ⟨_, h, h1⟩ := hr 1 (bv b) rfl; injection h with h; subst h
  obtain ⟨_, h, h2⟩ := hr 2 (bv c) rfl; injection h with h; subst h
  obtain ⟨_, h, h3⟩ := hr 3 (bv d) rfl; injection h with h; subst h
  have hi0 : 0 < n := by omega
  have h0' : w.cell? ad = some (bv a) := h0
  have h1' : w.cell? ⟨ad.block, ad.off + 1, none⟩ = some (bv b) := h1
  have h2' : w.cell? ⟨ad.block, ad.off + 2, none⟩ = some (bv c) := h2
  have h3' : w.cell? ⟨ad.block, ad.off + 3, none⟩ = some (bv d) := h3
  clear h0 h1 h2 h3
  have hi1 : (1 : Int) < (n : Int) := by omega
  have hi2 : (2 : Int) < (n : Int) := by omega
  have hi3 : (3 : Int) < (n : Int) := by omega
  have ba := n8_bd a
  have bb := n8_bd b
  have bc := n8_bd c
  have bd := n8_bd d
  have HN : Hid (((num4 a b c d : Nat) : Int) = n8 a + 256 * n8 b + 65536 * n8 c + 16777216 * n8 d) := by
    show ((num4 a b c d : Nat) : Int) = _
    unfold num4 n8; omega
  clear hr
  go_enter Tryd.func26, Tryd.ntmps26
  go_wp2
  go_quiet (fail)
  go_wp2
  go_ret
  exact ⟨by rw [HN.out]; rfl, _, rfl⟩
end Go.Proofs.YtjnbbfhoegeppaaDoor
