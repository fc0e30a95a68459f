/-
  Texts of the lemmas below the claim, put together: KvA DkR.
-/
import Derived.Test.YtjnbbfhoegeppaaGreatDoorMWalF
import Derived.Test.YtjnbbfhoegeppaaGreatDoorMWoA
import Derived.Test.YtjnbbfhoegeppaaGreatDoorMWalA
section
/-
  Walks of the store: its reader.
-/
set_option linter.unusedSimpArgs false
set_option linter.unusedVariables false
namespace Go.Cv.Kv
open Go Go.Cv.Dk
theorem or_num {l : List UInt8} {k : Nat} (hk : k < 8) (h : k < l.length) : UInt64.ofNat (num (l.take k)) ||| u64 (n8 l[k] * 256 ^ k) = UInt64.ofNat (num (l.take (k + 1))) := by
  have h1 : num (l.take k) < 256 ^ k := by
    have := num_lt (l.take k)
    rwa [List.length_take, Nat.min_eq_left (by omega)] at this
  have h2 := (l[k]).toNat_lt
  have h3 : 256 ^ k ≤ 256 ^ 7 := Nat.pow_le_pow_right (by omega) (by omega)
  have h4 : (256 ^ k) * (l[k].toNat + 1) ≤ 256 ^ 8 := by
    calc 256 ^ k * (l[k].toNat + 1) ≤ 256 ^ 7 * 256 := Nat.mul_le_mul h3 (by omega)
      _ = 256 ^ 8 := by decide
  have h5 : 256 ^ k * l[k].toNat < 18446744073709551616 := by
    have : (256 : Nat) ^ 8 = 18446744073709551616 := by decide
    rw [Nat.mul_add] at h4
    have : 0 < 256 ^ k := Nat.pos_of_ne_zero (by simp)
    omega
  apply UInt64.toNat_inj.1
  rw [num_take_succ h, UInt64.toNat_or]
  have e1 : (UInt64.ofNat (num (l.take k))).toNat = num (l.take k) := by
    rw [UInt64.toNat_ofNat']
    exact Nat.mod_eq_of_lt (by have : (256 : Nat) ^ 7 < 2 ^ 64 := by decide
                               omega)
  have e2 : (u64 (n8 l[k] * 256 ^ k)).toNat = 256 ^ k * l[k].toNat := by
    have := n64_u64 (n8 l[k] * 256 ^ k)
    unfold n64 n8 at this
    have e3 : ((l[k].toNat : Int) * 256 ^ k) = ((256 ^ k * l[k].toNat : Nat) : Int) := by
      rw [Int.natCast_mul, Int.mul_comm]; simp
    rw [e3] at this
    unfold n8
    rw [e3]
    omega
  rw [e1, e2, UInt64.toNat_ofNat']
  rw [Nat.or_comm]
  have e5 : 256 ^ k = 2 ^ (8 * k) := by rw [Nat.pow_mul]
  have e6 : (256 : Nat) ^ 8 = 2 ^ 64 := by decide
  rw [e5] at h1 h4 ⊢
  rw [Nat.or_comm, Nat.or_comm, ← Nat.two_pow_add_eq_or_of_lt h1]
  rw [Nat.mul_add] at h4
  rw [Nat.mod_eq_of_lt (by omega)]
  omega
theorem or_num' {l : List UInt8} {k : Nat} (hk : k < 8) (h : k < l.length) : UInt64.ofNat (num (l.take k)) ||| l[k].toUInt64 * u64 (2 ^ (8 * k)) = UInt64.ofNat (num (l.take (k + 1))) := by
  rw [← or_num hk h, u64_mul, u64_of_u8, Int.pow_mul]
  rfl
theorem num_bd {l : List UInt8} {n : Nat} (h : l.length ≤ n) : num l < 256 ^ n := Nat.lt_of_lt_of_le (num_lt l) (Nat.pow_le_pow_right (by omega) h)
theorem n64_num (l : List UInt8) (h : l.length ≤ 8) : n64 (UInt64.ofNat (num l)) = ((num l : Nat) : Int) := by
  have h1 := num_bd h
  have e : (256 : Nat) ^ 8 = 2 ^ 64 := by decide
  unfold n64
  rw [UInt64.toNat_ofNat', Nat.mod_eq_of_lt (by omega)]
end Go.Cv.Kv
namespace Go.Proofs.YtjnbbfhoegeppaaGreatDoor
open Go.RowKit Go.Cv Go.Cv.Dk Go.Cv.Wal Go.Cv.Kv
/-- A reader of the program's: what is still to be read, whether it failed; its bytes lie in a block of src. -/
structure RdrAt (w : World) (p : Nat) (src : List Nat) (l : List UInt8) (bad : Bool) : Prop where
  row : ∃ A c, Row w p 123 [.slice A l.length c, .bool bad] ∧ l.length ≤ c ∧ c ≤ maxLen ∧ Rd w A (l.map bv) ∧ (l = [] ∨ ∀ x ∈ rowOf A, x ∈ src)
theorem rd_src {w w' : World} {A : Option Addr} {l : List UInt8} {src bs : List Nat} (h : Rd w A (l.map bv)) (hs : l = [] ∨ ∀ x ∈ rowOf A, x ∈ src) (hk : Keep bs w w') (hb : ∀ x ∈ src, x ∉ bs) : Rd w' A (l.map bv) := by
  rcases hs with rfl | hs
  · exact Rd.nil_
  · exact h.keep hk fun ad e => hb _ (hs _ (by simp [rowOf, e]))
theorem RdrAt.keep {w w' : World} {p : Nat} {src bs : List Nat} {l : List UInt8} {bad : Bool} (h : RdrAt w p src l bad) (hk : Keep bs w w') (hp : p ∉ bs) (hs : ∀ x ∈ src, x ∉ bs) : RdrAt w' p src l bad := by
  obtain ⟨A, c, h1, h2, h3, h4, h5⟩ := h.row
  exact ⟨A, c, h1.keep hk hp, h2, h3, rd_src h4 h5 hk hs, h5⟩
theorem RdrAt.ext {w w' : World} {p : Nat} {src : List Nat} {l : List UInt8} {bad : Bool} (h : RdrAt w p src l bad) (hx : Ext w w') : RdrAt w' p src l bad := h.keep (Keep.of_ext (bs := []) hx) (by simp) (by simp)
/-- What a reader took. -/
def Took (w : World) (p : Nat) (src : List Nat) (t r : List UInt8) (bad : Bool) (e : Ending) (w' : World) : Prop :=
  ∃ A, e = .returned (.slice A t.length t.length) ∧ Rd w' A (t.map bv) ∧ RdrAt w' p src r bad ∧ Keep [p] w w'
theorem cutA_row {A : Option Addr} {l m s : Nat} : ∀ x ∈ rowOf (cutA A l m s), x ∈ rowOf A := fun x hx => by
  unfold cutA at hx
  split at hx
  · exact hx
  · rcases A with _ | ad
    · exact hx
    · simpa [rowOf, add_block] using hx
set_option maxHeartbeats 1600000 in
theorem take_any (p : Nat) (src : List Nat) (l : List UInt8) (bad : Bool) (n : Nat) (w : World) (h : RdrAt w p src l bad) (hp : p ∉ src) (hn : n ≤ 281474976710656) :
    Calls Tryz.prog 82 #[.pointer (some ⟨p, 0, none⟩), .int .i64 n] w (Took w p src (tkS n l).1 (tkS n l).2.1 (bad || (tkS n l).2.2)) := by
  refine calls_hid fun G hG => ?_
  obtain ⟨A, c, hrow, hlc, hcm, hrd, hsrc⟩ := h.row
  have c0 : w.cell? ⟨p, 0, none⟩ = some (.slice A l.length c) := hrow.cell (i := 0) (by simp)
  have c1 : w.cell? ⟨p, 1, none⟩ = some (.bool bad) := hrow.cell (i := 1) (by simp)
  have f0 := hrow.fro 0
  have f1 := hrow.fro 1
  have hlt := hrow.lt
  by_cases hle : n ≤ l.length
  · have hg : ∀ w', w' = w.setCell ⟨p, 0, none⟩ (.slice (cutA A n c 1) (l.length - n) (c - n)) → G (.returned (.slice A n n)) w' := fun w' e => hG.out _ _ (by
      subst e
      have hk := Keep.setCell w ⟨p, 0, none⟩ (.slice (cutA A n c 1) (l.length - n) (c - n))
      rw [tkS_ok hle]
      have hl : (l.take n).length = n := by rw [List.length_take]; omega
      have hrd' : Rd (w.setCell ⟨p, 0, none⟩ (.slice (cutA A n c 1) (l.length - n) (c - n))) A (l.map bv) := rd_src hrd hsrc hk (by intro x hx hm; rw [List.mem_singleton.1 hm] at hx; exact hp hx)
      refine ⟨A, by rw [hl], by rw [List.map_take]; exact hrd'.take n, ⟨_, c - n, ?_, by rw [List.length_drop]; omega, by omega, by rw [List.map_drop]; exact hrd'.cutA_ (by rw [List.length_map]; exact hlc), hsrc.imp (fun e => by rw [e]; simp) fun hs x hx => hs x (cutA_row x hx)⟩, hk⟩
      have := hrow.set 0 (.slice (cutA A n c 1) (l.length - n) (c - n))
      simpa using this)
    replace hg := Lib.hid hg
    have q1 : decide ((n : Int) < 0) = false := by simp
    have q2 : decide ((n : Int) > (l.length : Int)) = false := by simpa using hle
    clear hG hrd hrow h hsrc
    generalize l.length = m at *
    go_enter Tryz.func82, Tryz.ntmps82
    go_wp2
    exact hg.out _ rfl
  · have hg : ∀ w', w' = w.setCell ⟨p, 1, none⟩ (.bool true) → G (.returned (.slice none 0 0)) w' := fun w' e => hG.out _ _ (by
      subst e
      have hk := Keep.setCell w ⟨p, 1, none⟩ (.bool true)
      rw [tkS_no hle]
      have hrd' : Rd (w.setCell ⟨p, 1, none⟩ (.bool true)) A (l.map bv) := rd_src hrd hsrc hk (by intro x hx hm; rw [List.mem_singleton.1 hm] at hx; exact hp hx)
      refine ⟨none, rfl, Rd.nil_, ⟨A, c, ?_, hlc, hcm, hrd', hsrc⟩, hk⟩
      have := hrow.set 1 (.bool true)
      simpa using this)
    replace hg := Lib.hid hg
    have q1 : decide ((n : Int) < 0) = false := by simp
    have q2 : decide ((n : Int) > (l.length : Int)) = true := by simpa using hle
    have hle' : l.length < n := by omega
    clear hG hrd hrow h hsrc
    generalize l.length = m at *
    go_enter Tryz.func82, Tryz.ntmps82
    go_wp2
    exact hg.out _ rfl
set_option maxHeartbeats 1600000 in
theorem pnum_any (p : Nat) (src : List Nat) (l : List UInt8) (bad : Bool) (n : Nat) (w : World) (h : RdrAt w p src l bad) (hp : p ∉ src) (hn : n ≤ 8) :
    Calls Tryz.prog 69 #[.pointer (some ⟨p, 0, none⟩), .int .i64 n] w fun e w' => e = .returned (.int .u64 ((num (tkS n l).1 : Nat) : Int)) ∧ RdrAt w' p src (tkS n l).2.1 (bad || (tkS n l).2.2) ∧ Keep [p] w w' := by
  refine calls_hid fun G hG => ?_
  have hT := take_any p src l bad n w h hp (by omega)
  have hle := (tkS_len n l).1
  have hg : ∀ w', RdrAt w' p src (tkS n l).2.1 (bad || (tkS n l).2.2) → Keep [p] w w' → G (.returned (.int .u64 (n64 (UInt64.ofNat (num (tkS n l).1))))) w' := fun w' h1 h2 => hG.out _ _ ⟨by rw [n64_num _ (by omega)], h1, h2⟩
  generalize (tkS n l).1 = t at *
  generalize (tkS n l).2.1 = r at *
  generalize (bad || (tkS n l).2.2) = bd at *
  replace hg := Lib.hid hg
  clear hG h
  go_enter Tryz.func69, Tryz.ntmps69
  go_wp2_with (go_at_call 82; (with_reducible refine hT.mono ?_); rintro e w2 ⟨A, rfl, hrd, hR, hK⟩)
  replace hR := Lib.hid hR
  replace hK := Lib.hid hK
  go_loop [5, 6, 7, 12] (fun v _ _ i => ∃ k : Nat, k ≤ t.length ∧ i = .int .i64 k ∧ v = .int .u64 (n64 (UInt64.ofNat (num (t.take k))))) (fun _ _ _ i => t.length - (intOf i).toNat)
  case atStart => exact ⟨0, Nat.zero_le _, rfl, rfl⟩
  case round =>
    obtain ⟨k, hk, rfl, rfl⟩ := hrel
    by_cases hlt : k < t.length
    · obtain ⟨ad, rfl, hc⟩ := hrd.at_ (k := k) (by simpa using hlt)
      rw [List.getElem_map] at hc
      have HS := Lib.hid (or_num' (l := t) (k := k) (by omega) hlt)
      have hk8 : k < 8 := by omega
      generalize UInt64.ofNat (num (t.take k)) = c0 at *
      go_wp2
      go_round
      case rel => exact ⟨k + 1, by omega, by go_num, by rw [← HS.out]⟩
      case measure => simp [intOf]; omega
    · have e : t.take k = t := List.take_of_length_le (by omega)
      rw [e]
      go_wp2
      exact hg.out _ hR.out hK.out
theorem RdrAt.mark {w : World} {p : Nat} {src : List Nat} {l : List UInt8} {bad : Bool} (h : RdrAt w p src l bad) (hp : p ∉ src) : RdrAt (w.setCell ⟨p, 1, none⟩ (.bool true)) p src l true ∧ Keep [p] w (w.setCell ⟨p, 1, none⟩ (.bool true)) := by
  obtain ⟨A, c, h1, h2, h3, h4, h5⟩ := h.row
  have hk := Keep.setCell w ⟨p, 1, none⟩ (.bool true)
  refine ⟨⟨A, c, ?_, h2, h3, rd_src h4 h5 hk (by intro x hx hm; rw [List.mem_singleton.1 hm] at hx; exact hp hx), h5⟩, hk⟩
  have := h1.set 1 (.bool true)
  simpa using this
theorem RdrAt.flag {w : World} {p : Nat} {src : List Nat} {l : List UInt8} {bad : Bool} (h : RdrAt w p src l bad) : w.cell? ⟨p, 1, none⟩ = some (.bool bad) ∧ w.frozen? ⟨p, 1, none⟩ = false := by
  obtain ⟨A, c, h1, _⟩ := h.row
  exact ⟨h1.cell (i := 1) (by simp), h1.fro 1⟩
theorem tk1_bd (l : List UInt8) : num (tkS 1 l).1 < 256 := num_bd (n := 1) (tkS_len 1 l).1
theorem tk2_bd (l : List UInt8) : num (tkS 2 l).1 < 65536 := num_bd (n := 2) (tkS_len 2 l).1
theorem tk4_bd (l : List UInt8) : num (tkS 4 l).1 < 4294967296 := num_bd (n := 4) (tkS_len 4 l).1
theorem tk8_bd (l : List UInt8) : num (tkS 8 l).1 < 18446744073709551616 := num_bd (n := 8) (tkS_len 8 l).1
theorem pnum1 (p : Nat) (src : List Nat) (l : List UInt8) (bad : Bool) (w : World) (h : RdrAt w p src l bad) (hp : p ∉ src) :
    Calls Tryz.prog 69 #[.pointer (some ⟨p, 0, none⟩), .int .i64 1] w fun e w' => e = .returned (.int .u64 ((num (tkS 1 l).1 : Nat) : Int)) ∧ RdrAt w' p src (tkS 1 l).2.1 (bad || (tkS 1 l).2.2) ∧ Keep [p] w w' := pnum_any p src l bad 1 w h hp (by omega)
theorem pnum2 (p : Nat) (src : List Nat) (l : List UInt8) (bad : Bool) (w : World) (h : RdrAt w p src l bad) (hp : p ∉ src) :
    Calls Tryz.prog 69 #[.pointer (some ⟨p, 0, none⟩), .int .i64 2] w fun e w' => e = .returned (.int .u64 ((num (tkS 2 l).1 : Nat) : Int)) ∧ RdrAt w' p src (tkS 2 l).2.1 (bad || (tkS 2 l).2.2) ∧ Keep [p] w w' := pnum_any p src l bad 2 w h hp (by omega)
theorem pnum4 (p : Nat) (src : List Nat) (l : List UInt8) (bad : Bool) (w : World) (h : RdrAt w p src l bad) (hp : p ∉ src) :
    Calls Tryz.prog 69 #[.pointer (some ⟨p, 0, none⟩), .int .i64 4] w fun e w' => e = .returned (.int .u64 ((num (tkS 4 l).1 : Nat) : Int)) ∧ RdrAt w' p src (tkS 4 l).2.1 (bad || (tkS 4 l).2.2) ∧ Keep [p] w w' := pnum_any p src l bad 4 w h hp (by omega)
theorem pnum8 (p : Nat) (src : List Nat) (l : List UInt8) (bad : Bool) (w : World) (h : RdrAt w p src l bad) (hp : p ∉ src) :
    Calls Tryz.prog 69 #[.pointer (some ⟨p, 0, none⟩), .int .i64 8] w fun e w' => e = .returned (.int .u64 ((num (tkS 8 l).1 : Nat) : Int)) ∧ RdrAt w' p src (tkS 8 l).2.1 (bad || (tkS 8 l).2.2) ∧ Keep [p] w w' := pnum_any p src l bad 8 w h hp (by omega)
theorem nil_of_none {w : World} {l : List UInt8} {A : Option Addr} (h : Rd w A (l.map bv)) (hA : A = none) : l.length = 0 ∧ l.length = 0 := by
  subst hA
  rcases l with _ | ⟨x, r⟩
  · exact ⟨rfl, rfl⟩
  · obtain ⟨ad, e, _⟩ := h 0 _ rfl
    cases e
set_option maxHeartbeats 1600000 in
theorem pkey_any (p : Nat) (src : List Nat) (l : List UInt8) (bad : Bool) (w : World) (h : RdrAt w p src l bad) (hp : p ∉ src) :
    Calls Tryz.prog 70 #[.pointer (some ⟨p, 0, none⟩)] w fun e w' => e = .returned (.string ⟨(keyS l).1.toArray⟩) ∧ RdrAt w' p src (keyS l).2.1 (bad || (keyS l).2.2) ∧ Keep [p] w w' := by
  refine calls_hid fun G hG => ?_
  have hN := pnum1 p src l bad w h hp
  have hb := tk1_bd l
  have hT := fun w' bd (h' : RdrAt w' p src (tkS 1 l).2.1 bd) => take_any p src (tkS 1 l).2.1 bd (num (tkS 1 l).1) w' h' hp (by omega)
  have hg : ∀ w', RdrAt w' p src (keyS l).2.1 (bad || (keyS l).2.2) → Keep [p] w w' → G (.returned (.string ⟨(keyS l).1.toArray⟩)) w' := fun w' h1 h2 => hG.out _ _ ⟨rfl, h1, h2⟩
  unfold keyS at hg
  clear hG h
  generalize (tkS 1 l).2.1 = r at *
  generalize (tkS 1 l).2.2 = f at *
  generalize num (tkS 1 l).1 = n at *
  generalize (tkS n r).1 = t at *
  generalize (tkS n r).2.1 = r2 at *
  generalize (tkS n r).2.2 = f2 at *
  by_cases h0 : n = 0
  · have hg' : ∀ w', RdrAt w' p src r2 (true || f2) → Keep [p] w w' → G (.returned (.string ⟨t.toArray⟩)) w' := fun w' h1 h2 => by
      refine hg w' ?_ h2
      show RdrAt w' p src r2 (bad || (f || (n == 0) || f2))
      subst h0
      simpa using h1
    replace hg' := Lib.hid hg'
    have q : ((n : Int) == 0) = true := by simpa using h0
    clear hg h0
    go_enter Tryz.func70, Tryz.ntmps70
    go_wp2_with (first
      | (go_at_call 69; (with_reducible refine hN.mono ?_); rintro e w2 ⟨rfl, hR2, hK2⟩; have hc2 := hR2.flag.1; have hf2 := hR2.flag.2; have hM := (hR2.mark hp).1; have hMk := Lib.hid (hR2.mark hp).2; replace hR2 := Lib.hid hR2)
      | (go_at_call 82; (with_reducible refine (hT _ true hM).mono ?_); rintro e w3 ⟨A, rfl, hrd, hR3, hK3⟩; have hcv := run_convert_rd (P := Tryz.prog) w3 43 9 5 Tryz.underlying43 Tryz.underlying5 Tryz.underlying9 A _ t.length t rfl hrd))
    exact hg'.out _ hR3 ((hK2.same hMk.out).same hK3)
  · have hg' : ∀ w', RdrAt w' p src r2 ((bad || f) || f2) → Keep [p] w w' → G (.returned (.string ⟨t.toArray⟩)) w' := fun w' h1 h2 => by
      have e0 : (n == 0) = false := by simpa using h0
      refine hg w' ?_ h2
      show RdrAt w' p src r2 (bad || (f || (n == 0) || f2))
      rw [e0, Bool.or_false, ← Bool.or_assoc]
      exact h1
    replace hg' := Lib.hid hg'
    have q : ((n : Int) == 0) = false := by simpa using h0
    clear hg h0
    go_enter Tryz.func70, Tryz.ntmps70
    go_wp2_with (first
      | (go_at_call 69; (with_reducible refine hN.mono ?_); rintro e w2 ⟨rfl, hR2, hK2⟩)
      | (go_at_call 82; (with_reducible refine (hT _ _ hR2).mono ?_); rintro e w3 ⟨A, rfl, hrd, hR3, hK3⟩; have hcv := run_convert_rd (P := Tryz.prog) w3 43 9 5 Tryz.underlying43 Tryz.underlying5 Tryz.underlying9 A _ t.length t rfl hrd))
    exact hg'.out _ hR3 (hK2.same hK3)
/-- A value that was taken: in a row of its own. -/
def TookV (w : World) (p : Nat) (src : List Nat) (t r : List UInt8) (bad : Bool) (e : Ending) (w' : World) : Prop :=
  ∃ A c, e = .returned (.slice A t.length c) ∧ w'.ownsRow w.heap.size 5 1 (.slice A t.length c) t.length (t.map bv) ∧ t.length ≤ c ∧ c ≤ maxLen ∧ RdrAt w' p src r bad ∧ Keep [p] w w'
set_option maxHeartbeats 1600000 in
theorem pval_any (p : Nat) (src : List Nat) (l : List UInt8) (bad : Bool) (w : World) (h : RdrAt w p src l bad) (hp : p ∉ src) :
    Calls Tryz.prog 71 #[.pointer (some ⟨p, 0, none⟩)] w (TookV w p src (valS l).1 (valS l).2.1 (bad || (valS l).2.2)) := by
  refine calls_hid fun G hG => ?_
  have hN := pnum4 p src l bad w h hp
  have hb := tk4_bd l
  have hplt : p < w.heap.size := by obtain ⟨A, c, h1, _⟩ := h.row; exact h1.lt
  have hT := fun w' bd (h' : RdrAt w' p src (tkS 4 l).2.1 bd) => take_any p src (tkS 4 l).2.1 bd (num (tkS 4 l).1) w' h' hp (by omega)
  have htl := (tkS_len (num (tkS 4 l).1) (tkS 4 l).2.1).1
  have hg : ∀ e w', TookV w p src (valS l).1 (valS l).2.1 (bad || (valS l).2.2) e w' → G e w' := fun e w' h1 => hG.out _ _ h1
  unfold valS at hg
  clear hG h
  generalize (tkS 4 l).2.1 = r at *
  generalize (tkS 4 l).2.2 = f at *
  generalize num (tkS 4 l).1 = n at *
  by_cases h0 : 262144 < n
  · rw [if_pos h0] at hg
    have hg' : ∀ w', RdrAt w' p src r true → Keep [p] w w' → G (.returned (.slice none 0 0)) w' := fun w' h1 h2 => hg _ w' ⟨none, 0, rfl, World.ownsRow_nil _ _ _ 1, Nat.le_refl _, by unfold maxLen; omega, by simpa using h1, h2⟩
    replace hg' := Lib.hid hg'
    have q : decide ((262144 : Int) < (n : Int)) = true := decide_eq_true (by omega)
    clear hg hT htl
    go_enter Tryz.func71, Tryz.ntmps71
    go_wp2_with (first
      | (go_at_call 69; (with_reducible refine hN.mono ?_); rintro e w2 ⟨rfl, hR2, hK2⟩; have hc2 := hR2.flag.1; have hf2 := hR2.flag.2; have hM := Lib.hid (hR2.mark hp).1; have hMk := Lib.hid (hR2.mark hp).2; replace hR2 := Lib.hid hR2))
    exact hg'.out _ hM.out (hK2.same hMk.out)
  · rw [if_neg h0] at hg
    have q : decide ((262144 : Int) < (n : Int)) = false := decide_eq_false (by omega)
    generalize (tkS n r).1 = t at *
    generalize (tkS n r).2.1 = r2 at *
    generalize (tkS n r).2.2 = f2 at *
    have hg' : ∀ A c w2 w', w'.ownsRow w2.heap.size 5 1 (.slice A t.length c) t.length (t.map bv) → t.length ≤ c → c ≤ maxLen → Keep [p] w w2 → Ext w2 w' → RdrAt w2 p src r2 ((bad || f) || f2) → G (.returned (.slice A t.length c)) w' := fun A c w2 w' h1 h2 h3 h4 h5 h6 =>
      hg _ w' ⟨A, c, rfl, own_base h1 h4.size, h2, h3, by rw [← Bool.or_assoc]; exact h6.ext h5, h4.ext h5⟩
    replace hg' := Lib.hid hg'
    clear hg
    have htb : t.length ≤ 140737488355328 := by omega
    replace htl := Lib.hid htl
    go_enter Tryz.func71, Tryz.ntmps71
    go_wp2_with (first
      | (go_at_call 69; (with_reducible refine hN.mono ?_); rintro e w2 ⟨rfl, hR2, hK2⟩)
      | (go_at_call 82; (with_reducible refine (hT _ _ hR2).mono ?_); rintro e w3 ⟨A, rfl, hrd, hR3, hK3⟩; have hC := clone_any A t.length t.length t w3 rfl hrd (nil_of_none hrd) htb)
      | (go_at_call 50; (with_reducible refine hC.mono ?_); rintro e w4 ⟨v, rfl, A4, c4, rfl, hx4, ho4, hc4, hm4, hr4⟩))
    exact hg'.out _ _ _ _ ho4 hc4 hm4 (hK2.same hK3) hx4 hR3
end Go.Proofs.YtjnbbfhoegeppaaGreatDoor
end
section
/-
  Walks of the disk: other names, away.
-/
set_option linter.unusedSimpArgs false
set_option linter.unusedVariables false
namespace Go.Proofs.YtjnbbfhoegeppaaGreatDoor
open Go.RowKit Go.Cv Go.Cv.Dk
section
variable {w : World} {ops : Array Oper} {rest : List Oper} {o : Oper} {a : Act} {Q : Exit → Act → World → Prop}
/-- 'delete(files, name)'. -/
theorem wpList_drop_files (hg : o.guard = none) (m x : Operand) (hop : o.op = Op.call { callee := Callee.builtin Builtin.delete, args := #[m, x], argTypes := #[110, 9] })
    (mb : Nat) (L : List GF) (hm : a.eval m = .map (some mb)) (h : MapAt w mb L) (s : ByteArray) (hx : a.eval x = .string s) (hs : s.size ≤ 281474976710656)
    (hK : ∀ w', MapAt w' mb (L.filter fun z => !(z.f.nm == s.data.toList)) → Keep [mb] w w' → wpList Tryz.prog ops Q rest (a.put o.dst (.tuple #[])) w') :
    wpList Tryz.prog ops Q (o :: rest) a w := by
  refine wpList_plain hg fun K' hK' => ?_
  obtain ⟨w', hrun, r1, r2⟩ := h.drop (s := s) (by unfold maxLen; omega) o.type
  unfold Oper.wp
  simp [execOp, hop, resolve, invoke, builtin, hm, hx, hrun, Result.andThen]
  exact hK' _ _ (hK w' r1 r2)
end
/-- Some files go away, the map with them. -/
theorem DiskAt.fewer {w w' : World} {B d mb : Nat} {S S' : DS} {L l : List GF} (h : DiskAt w B d mb S L) (hl : l.Sublist L) (hk : Keep [mb] w w') (hM : MapAt w' mb l) (hd : dcells S'.room mb S'.off S'.bud S'.st = dcells S.room mb S.off S.bud S.st) (hS : S'.l = l.map GF.f) (hok : S'.Ok) :
    DiskAt w' B d mb S' l ∧ Stp (foot d mb L) (foot d mb l) w w' := by
  have hmb : ∀ g ∈ L, ∀ x ∈ ownB g, x ∉ [mb] := fun g hg x hx hm => by
    rw [List.mem_singleton.1 hm] at hx
    exact (h.sep.each g hg).2.2 hx
  refine ⟨⟨?_, hM, fun g hg => (h.fl g (hl.subset hg)).keep hk (hmb g (hl.subset hg)), h.sep.sub hl, hS, h.ge, hok⟩, hk.mono (by simp [foot]), fun x hx => .inl ?_⟩
  · have := h.row.keep hk (fun hm => h.sep.dm (List.mem_singleton.1 hm))
    rw [show [Value.int .i64 S'.room, .map (some mb), .bool S'.off, .int .i64 S'.bud, .int .i64 S'.st] = [Value.int .i64 S.room, .map (some mb), .bool S.off, .int .i64 S.bud, .int .i64 S.st] from hd]
    exact this
  · simp only [foot, List.mem_cons, List.mem_flatMap] at hx ⊢
    rcases hx with rfl | rfl | ⟨z, hz, hx⟩
    · exact .inl rfl
    · exact .inr (.inl rfl)
    · exact .inr (.inr ⟨z, hl.subset hz, hx⟩)
theorem filter_f (L : List GF) (x : List UInt8) : (L.filter fun z => !(z.f.nm == x)).map GF.f = Dk.del (L.map GF.f) x := by
  unfold Dk.del
  rw [List.filter_map]
  rfl
theorem ok_del {S : DS} (h : S.Ok) (x : List UInt8) : DS.Ok { S with l := Dk.del S.l x } := by
  refine ⟨h.r0, h.r1, h.b0, h.b1, ?_, fun y hy => h.nm y (List.mem_filter.1 hy).1, fun y hy => h.sy y (List.mem_filter.1 hy).1, h.ris.filter _⟩
  have h1 := used_del S.l x
  have h2 := h.u
  show (used (Dk.del S.l x) : Int) ≤ S.room
  omega
theorem ok_ren {S : DS} (h : S.Ok) {x y : List UInt8} {f : PF} (hf : Dk.get S.l x = some f) (hy : nameOk y = true) : DS.Ok { S with l := ins PF.nm { f with nm := y } (Dk.del (Dk.del S.l x) y) } := by
  obtain ⟨l1, l2, hl, hn, h1, h2⟩ := get_split h.ris hf
  have hm := ins_mem PF.nm { f with nm := y } (Dk.del (Dk.del S.l x) y)
  have hsub : ∀ z ∈ Dk.del (Dk.del S.l x) y, z ∈ S.l := fun z hz => (List.mem_filter.1 (List.mem_filter.1 hz).1).1
  have hfm : f ∈ S.l := by rw [hl]; simp
  refine ⟨h.r0, h.r1, h.b0, h.b1, ?_, fun z hz => ?_, fun z hz => ?_, ((h.ris.filter _).filter _).ins fun z hz => ?_⟩
  · show (used (ins PF.nm { f with nm := y } (Dk.del (Dk.del S.l x) y)) : Int) ≤ S.room
    obtain ⟨m1, m2, e1, e2⟩ := ins_split PF.nm { f with nm := y } (Dk.del (Dk.del S.l x) y)
    have e3 := used_del (Dk.del S.l x) y
    have e4 : used S.l = f.b.length + used (Dk.del S.l x) := by
      rw [hl, del_split h1 h2 hn, used_app, used_app, used_cons]; omega
    have := h.u
    rw [e1, used_app] at e3
    rw [e2, used_app, used_cons]
    show ((used m1 + (f.b.length + used m2) : Nat) : Int) ≤ S.room
    omega
  · rcases (hm z).1 hz with rfl | hz
    · exact hy
    · exact h.nm z (hsub z hz)
  · rcases (hm z).1 hz with rfl | hz
    · exact h.sy f hfm
    · exact h.sy z (hsub z hz)
  · have := (List.mem_filter.1 hz).2
    simpa using this
/-- A file has another name. -/
theorem DiskAt.renamed {w w' : World} {B d mb : Nat} {S : DS} {l1 l2 : List GF} {g : GF} {x y : List UInt8} (h : DiskAt w B d mb S (l1 ++ g :: l2)) (hg : Dk.get S.l x = some g.f) (hx : g.f.nm = x) (hy : nameOk y = true) (hk : Keep [mb] w w')
    (hM : MapAt w' mb (ins GF.nm ⟨{ g.f with nm := y }, g.k, g.A, g.c⟩ (((l1 ++ g :: l2).filter fun z => !(z.f.nm == x)).filter fun z => !(z.f.nm == y)))) :
    Done w B d mb (l1 ++ g :: l2) { S with l := ins PF.nm { g.f with nm := y } (Dk.del (Dk.del S.l x) y) } w' := by
  have hris := ris_after h.map.ris
  have e1 : (l1 ++ g :: l2).filter (fun z => !(z.f.nm == x)) = l1 ++ l2 := by
    rw [List.filter_append, List.filter_cons_of_neg (by simp [hx])]
    rw [filter_all_ (fun z hz => by simpa [GF.nm, hx] using hris.1 z hz), filter_all_ (fun z hz => by simpa [GF.nm, hx] using hris.2 z hz)]
  have hS : ins PF.nm { g.f with nm := y } (Dk.del (Dk.del S.l x) y) = (ins GF.nm (⟨{ g.f with nm := y }, g.k, g.A, g.c⟩ : GF) (((l1 ++ g :: l2).filter fun z => !(z.f.nm == x)).filter fun z => !(z.f.nm == y))).map GF.f := by
    rw [ins_map (key := GF.nm) (key' := PF.nm) (f := GF.f) (fun _ => rfl), filter_f, filter_f, h.ls]
  rw [e1] at hM hS
  obtain ⟨m1, m2, e2, e3⟩ := ins_split GF.nm (⟨{ g.f with nm := y }, g.k, g.A, g.c⟩ : GF) ((l1 ++ l2).filter fun z => !(z.f.nm == y))
  rw [e3] at hM hS
  have hsub : ∀ z ∈ m1 ++ m2, z ∈ l1 ++ l2 := fun z hz => by rw [← e2] at hz; exact (List.mem_filter.1 hz).1
  have hin : ∀ z ∈ l1 ++ l2, z ∈ l1 ++ g :: l2 := fun z hz => by
    rcases List.mem_append.1 hz with hz | hz
    · simp [hz]
    · simp [hz]
  obtain ⟨s1, s2, s3, s4, s5⟩ := h.sep.of
  have hmb : ∀ z ∈ l1 ++ g :: l2, ∀ x ∈ ownB z, x ∉ [mb] := fun z hz x hx hm => by
    rw [List.mem_singleton.1 hm] at hx
    exact (h.sep.each z hz).2.2 hx
  have hG := (h.fl g (by simp)).keep hk (hmb g (by simp))
  refine ⟨m1 ++ ⟨{ g.f with nm := y }, g.k, g.A, g.c⟩ :: m2, ⟨?_, hM, fun z hz => ?_, ?_, hS, h.ge, ok_ren h.ok hg hy⟩, ⟨hk.mono (by simp [foot]), fun z hz => .inl ?_⟩, ?_⟩
  · exact h.row.keep hk (fun hm => h.sep.dm (List.mem_singleton.1 hm))
  · rcases List.mem_append.1 hz with hz | hz
    · exact (h.fl z (hin z (hsub z (by simp [hz])))).keep hk (hmb z (hin z (hsub z (by simp [hz]))))
    · rcases List.mem_cons.1 hz with rfl | hz
      · exact ⟨hG.row, hG.rd, hG.nc, hG.cm, hG.sy, hG.own, hG.nil, hG.len, hG.ge⟩
      · exact (h.fl z (hin z (hsub z (by simp [hz])))).keep hk (hmb z (hin z (hsub z (by simp [hz]))))
  · have hsp : Sep d mb (m1 ++ m2) := by
      rw [← e2]
      exact (h.sep.sub (l := l1 ++ l2) (by simp)).sub List.filter_sublist
    exact hsp.add s2 fun v hv => ⟨fun e => s3 (e ▸ hv), fun e => s4 (e ▸ hv), fun z hz => s5 z (hsub z hz) v hv⟩
  · simp only [foot, List.mem_cons, List.mem_flatMap] at hz ⊢
    rcases hz with rfl | rfl | ⟨v, hv, hz⟩
    · exact .inl rfl
    · exact .inr (.inl rfl)
    · rcases List.mem_append.1 hv with hv | hv
      · exact .inr (.inr ⟨v, hin v (hsub v (by simp [hv])), hz⟩)
      · rcases List.mem_cons.1 hv with rfl | hv
        · exact .inr (.inr ⟨g, by simp, hz⟩)
        · exact .inr (.inr ⟨v, hin v (hsub v (by simp [hv])), hz⟩)
  · have : (m1 ++ m2).length ≤ (l1 ++ l2).length := by rw [← e2]; exact List.length_filter_le _ _
    simp only [List.length_append, List.length_cons] at this ⊢
    omega
set_option maxHeartbeats 1600000 in
theorem remove_any (B d mb : Nat) (S : DS) (L : List GF) (s : ByteArray) (w : World) (h : DiskAt w B d mb S L) (hs : s.size ≤ 281474976710656) :
    Calls Tryz.prog 54 #[.pointer (some ⟨d, 0, none⟩), .string s] w fun e w' => e = .returned (errV (rem wrap64 S s.data.toList).1) ∧ Done w B d mb L (rem wrap64 S s.data.toList).2 w' := by
  refine calls_hid fun G hG => ?_
  by_cases hf : fnd S s.data.toList = 0
  · obtain ⟨ho, f, hq⟩ := fnd_ok hf
    obtain ⟨l1, l2, g, hL, hgf, hnm, h1, h2⟩ := h.isome hq
    have hF : Calls Tryz.prog 49 #[.pointer (some ⟨d, 0, none⟩), .string s] w fun e w' => e = .returned (.tuple #[.pointer (some ⟨g.k, 0, none⟩), .nilIface]) ∧ w = w' := by
      subst hL
      exact find_ok B d mb S l1 l2 g s w h hs ho h1 hnm
    have hT := step_any B d mb S L w h
    have hcut : rem wrap64 S s.data.toList = if (stepd S wrap64).1 then (0, { (stepd S wrap64).2 with l := Dk.del S.l s.data.toList }) else (11, (stepd S wrap64).2) := by
      unfold rem; rw [if_neg (by simp [hf])]
    have hsl := (stepd_l S wrap64).1
    rw [← hsl] at hcut
    by_cases hb : S.bud = 0
    · rw [stepd_zero hb] at hT hcut
      have hg : ∀ w', Done w B d mb L (stepd S wrap64).2 w' → G (.returned (errV 11)) w' := fun w' hd => hG.out _ _ (by rw [hcut]; exact ⟨rfl, hd⟩)
      replace hg := Lib.hid hg
      generalize (stepd S wrap64).2 = S1 at *
      clear hG h hf ho hq hnm h1 h2 hb hcut hL hgf hsl
      go_enter Tryz.func54, Tryz.ntmps54
      go_wp2_with (first
        | (go_at_call 49; (with_reducible refine hF.mono ?_); rintro e w' ⟨rfl, rfl⟩)
        | (go_at_call 63; (with_reducible refine hT.mono ?_); rintro e w1 ⟨rfl, hD1, hk1⟩))
      exact hg.out _ (Done.d hD1 hk1)
    · rw [stepd_one hb] at hT hcut
      have hg : ∀ w', Done w B d mb L { (stepd S wrap64).2 with l := Dk.del (stepd S wrap64).2.l s.data.toList } w' → G (.returned (errV 0)) w' := fun w' hd => hG.out _ _ (by rw [hcut]; exact ⟨rfl, hd⟩)
      replace hg := Lib.hid hg
      generalize (stepd S wrap64).2 = S1 at *
      clear hG h hf ho hq hnm h1 h2 hb hcut hL hgf hsl
      go_enter Tryz.func54, Tryz.ntmps54
      go_wp2_with (first
        | (go_at_call 49; (with_reducible refine hF.mono ?_); rintro e w' ⟨rfl, rfl⟩)
        | (go_at_call 63; (with_reducible refine hT.mono ?_); rintro e w1 ⟨rfl, hD1, hk1⟩; have c1 : w1.cell? ⟨d, 1, none⟩ = some (.map (some mb)) := hD1.row.cell (i := 1) (by simp); have hM := hD1.map; replace hD1 := Lib.hid hD1)
        | (at_delete; refine wpList_drop_files rfl (.tmp 23) (.tmp 24) rfl mb L rfl hM s rfl hs ?_; intro w2 hM2 hk2))
      have hfe := hD1.out.fewer (l := L.filter fun z => !(z.f.nm == s.data.toList)) (S' := { S1 with l := Dk.del S1.l s.data.toList }) List.filter_sublist hk2 hM2 rfl (by rw [filter_f, ← hD1.out.ls]) (ok_del hD1.out.ok _)
      exact hg.out _ ⟨_, hfe.1, (stp_d hk1).trans hfe.2, by have := List.length_filter_le (fun z : GF => !(z.f.nm == s.data.toList)) L; omega⟩
  · have hF := find_bad B d mb S L s w h hs hf
    have hg : G (.returned (errV (fnd S s.data.toList))) w := hG.out _ _ (by
      have e : rem wrap64 S s.data.toList = (fnd S s.data.toList, S) := by unfold rem; rw [if_pos hf]
      rw [e]; exact ⟨rfl, Done.same h⟩)
    rw [errV_ne hf] at hg
    clear hG h hf
    generalize ((fnd S s.data.toList : Nat) : Int) = q at *
    go_enter Tryz.func54, Tryz.ntmps54
    go_wp2_with (go_at_call 49; (with_reducible refine hF.mono ?_); rintro e w' ⟨rfl, rfl⟩)
    exact hg
set_option maxHeartbeats 1600000 in
theorem rename_any (B d mb : Nat) (S : DS) (L : List GF) (s t : ByteArray) (w : World) (h : DiskAt w B d mb S L) (hs : s.size ≤ 281474976710656) (ht : t.size ≤ 281474976710656) (hL : L.length < 281474976710656) :
    Calls Tryz.prog 44 #[.pointer (some ⟨d, 0, none⟩), .string s, .string t] w fun e w' => e = .returned (errV (ren wrap64 S s.data.toList t.data.toList).1) ∧ Done w B d mb L (ren wrap64 S s.data.toList t.data.toList).2 w' := by
  refine calls_hid fun G hG => ?_
  have hN := named_any t w ht
  by_cases hy : nameOk t.data.toList = false
  · have hg : ∀ w', Ext w w' → G (.returned (errV 1)) w' := fun w' hx => hG.out _ _ (by
      have e : ren wrap64 S s.data.toList t.data.toList = (1, S) := by unfold ren; rw [if_pos hy]
      rw [e]; exact ⟨rfl, Done.of_ext h hx⟩)
    rw [hy] at hN
    replace hg := Lib.hid hg
    clear hG h hy
    go_enter Tryz.func44, Tryz.ntmps44
    go_wp2_with (go_at_call 62; (with_reducible refine hN.mono ?_); rintro e w' ⟨rfl, hx0⟩)
    exact hg.out _ hx0
  · replace hy : nameOk t.data.toList = true := by simpa using hy
    rw [hy] at hN
    by_cases hf : fnd S s.data.toList = 0
    · obtain ⟨ho, f, hq⟩ := fnd_ok hf
      obtain ⟨l1, l2, g, hLe, hgf, hnm, h1, h2⟩ := h.isome hq
      have hF : ∀ w0, Ext w w0 → Calls Tryz.prog 49 #[.pointer (some ⟨d, 0, none⟩), .string s] w0 fun e w' => e = .returned (.tuple #[.pointer (some ⟨g.k, 0, none⟩), .nilIface]) ∧ w0 = w' := fun w0 hx => by
        have hx2 := h.ext hx
        subst hLe
        exact find_ok B d mb S l1 l2 g s w0 hx2 hs ho h1 hnm
      have hT := fun w0 (hx : Ext w w0) => step_any B d mb S L w0 (h.ext hx)
      have hcut : ren wrap64 S s.data.toList t.data.toList = if (stepd S wrap64).1 then (0, { (stepd S wrap64).2 with l := ins PF.nm { f with nm := t.data.toList } (Dk.del (Dk.del S.l s.data.toList) t.data.toList) }) else (11, (stepd S wrap64).2) := by
        unfold ren; rw [if_neg (by rw [hy]; simp), if_neg (by simp [hf]), hq]
      have hsl := (stepd_l S wrap64).1
      rw [← hsl] at hcut
      have hq1 : Dk.get (stepd S wrap64).2.l s.data.toList = some g.f := by rw [hsl, hq, hgf]
      by_cases hb : S.bud = 0
      · rw [stepd_zero hb] at hT hcut
        have hg : ∀ w', Done w B d mb L (stepd S wrap64).2 w' → G (.returned (errV 11)) w' := fun w' hd => hG.out _ _ (by rw [hcut]; exact ⟨rfl, hd⟩)
        replace hg := Lib.hid hg
        generalize (stepd S wrap64).2 = S1 at *
        clear hG h hf ho hq hnm h1 h2 hb hcut hLe hgf hsl hq1 hy
        go_enter Tryz.func44, Tryz.ntmps44
        go_wp2_with (first
          | (go_at_call 62; (with_reducible refine hN.mono ?_); rintro e w0 ⟨rfl, hx0⟩)
          | (go_at_call 49; (with_reducible refine (hF w0 hx0).mono ?_); rintro e w' ⟨rfl, rfl⟩)
          | (go_at_call 63; (with_reducible refine (hT w0 hx0).mono ?_); rintro e w1 ⟨rfl, hD1, hk1⟩))
        exact hg.out _ (Done.after (Stp.of_ext hx0) (Nat.le_refl _) (Done.d hD1 hk1))
      · rw [stepd_one hb] at hT hcut
        have hg : ∀ w', Done w B d mb L { (stepd S wrap64).2 with l := ins PF.nm { g.f with nm := t.data.toList } (Dk.del (Dk.del (stepd S wrap64).2.l s.data.toList) t.data.toList) } w' → G (.returned (errV 0)) w' := fun w' hd => hG.out _ _ (by rw [hcut, ← hgf]; exact ⟨rfl, hd⟩)
        replace hg := Lib.hid hg
        generalize (stepd S wrap64).2 = S1 at *
        replace hLe := Lib.hid hLe
        replace hq1 := Lib.hid hq1
        replace hnm := Lib.hid hnm
        replace hy := Lib.hid hy
        clear hG h hf ho hq h1 h2 hb hcut hgf hsl
        go_enter Tryz.func44, Tryz.ntmps44
        go_wp2_with (first
          | (go_at_call 62; (with_reducible refine hN.mono ?_); rintro e w0 ⟨rfl, hx0⟩)
          | (go_at_call 49; (with_reducible refine (hF w0 hx0).mono ?_); rintro e w' ⟨rfl, rfl⟩)
          | (go_at_call 63; (with_reducible refine (hT w0 hx0).mono ?_); rintro e w1 ⟨rfl, hD1, hk1⟩; have c1 : w1.cell? ⟨d, 1, none⟩ = some (.map (some mb)) := hD1.row.cell (i := 1) (by simp); have hM := hD1.map; have hrw := hD1.row; have hdm := hD1.sep.dm; replace hD1 := Lib.hid hD1)
          | (at_delete; refine wpList_drop_files rfl (.tmp 29) (.tmp 30) rfl mb L rfl hM s rfl hs ?_; intro w2 hM2 hk2; have c2 : w2.cell? ⟨d, 1, none⟩ = some (.map (some mb)) := (hrw.keep hk2 (fun hm => hdm (List.mem_singleton.1 hm))).cell (i := 1) (by simp); obtain ⟨w3, hst, hM3, hk3⟩ := hM2.store (s := t) (by unfold maxLen; omega) (by have := List.length_filter_le (fun z : GF => !(z.f.nm == s.data.toList)) L; unfold maxLen; omega) ⟨{ g.f with nm := t.data.toList }, g.k, g.A, g.c⟩ rfl))
        have hD1' := hD1.out
        rw [hLe.out] at hD1' hM3
        have hre := hD1'.renamed hq1.out hnm.out hy.out (hk2.same hk3) hM3
        rw [← hLe.out] at hre
        exact hg.out _ (Done.after (Stp.of_ext hx0) (Nat.le_refl _) (Done.after (stp_d hk1) (Nat.le_refl _) hre))
    · have hF := fun w0 (hx : Ext w w0) => find_bad B d mb S L s w0 (h.ext hx) hs hf
      have hg : ∀ w', Ext w w' → G (.returned (errV (fnd S s.data.toList))) w' := fun w' hx => hG.out _ _ (by
        have e : ren wrap64 S s.data.toList t.data.toList = (fnd S s.data.toList, S) := by unfold ren; rw [if_neg (by rw [hy]; simp), if_pos hf]
        rw [e]; exact ⟨rfl, Done.of_ext h hx⟩)
      rw [errV_ne hf] at hg
      replace hg := Lib.hid hg
      clear hG h hf hy
      generalize ((fnd S s.data.toList : Nat) : Int) = q at *
      go_enter Tryz.func44, Tryz.ntmps44
      go_wp2_with (first
        | (go_at_call 62; (with_reducible refine hN.mono ?_); rintro e w0 ⟨rfl, hx0⟩)
        | (go_at_call 49; (with_reducible refine (hF w0 hx0).mono ?_); rintro e w' ⟨rfl, rfl⟩))
      exact hg.out _ hx0
end Go.Proofs.YtjnbbfhoegeppaaGreatDoor
end
