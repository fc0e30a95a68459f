/-
  Walks of the answer's reader.
-/
import Derived.Test.YtjnbbfhoegeppaaGreatDoorMKvY
set_option linter.unusedSimpArgs false
set_option linter.unusedVariables false
namespace Go.Cv.Kv
open Go Go.Cv.Dk
/-- A number, as the answer's reader takes it. -/
def rnS (n : Nat) (l : List UInt8) : Nat × List UInt8 × Bool :=
  if (tkS n l).1.length = 8 ∧ 9223372036854775808 ≤ num (tkS n l).1 then (0, (tkS n l).2.1, true) else (num (tkS n l).1, (tkS n l).2.1, (tkS n l).2.2)
theorem rnS_of {n : Nat} {l : List UInt8} (h : n < 8) : rnS n l = (num (tkS n l).1, (tkS n l).2.1, (tkS n l).2.2) := by
  have := (tkS_len n l).1
  unfold rnS
  rw [if_neg (by omega)]
theorem num_top {t : List UInt8} (h : t.length = 8) : 9223372036854775808 ≤ num t ↔ 127 < (t[7]'(by omega)).toNat := by
  have h1 := num_take_succ (l := t) (k := 7) (by omega)
  rw [List.take_of_length_le (by omega)] at h1
  have h2 := num_lt (t.take 7)
  rw [List.length_take, h] at h2
  have e1 : (256 : Nat) ^ 7 = 72057594037927936 := by decide
  have e2 : min 7 8 = 7 := rfl
  rw [e2] at h2
  rw [e1] at h1 h2
  rw [h1]
  have h3 := (t[7]'(by omega)).toNat_lt
  omega
theorem num_drop_lt {t : List UInt8} {k : Nat} (h : t.length ≤ 8) (hk : 1 ≤ k) : num (t.drop k) < 72057594037927936 := by
  have h1 := num_lt (t.drop k)
  rw [List.length_drop] at h1
  have h2 : (256 : Nat) ^ (t.length - k) ≤ 256 ^ 7 := Nat.pow_le_pow_right (by omega) (by omega)
  have e1 : (256 : Nat) ^ 7 = 72057594037927936 := by decide
  omega
end Go.Cv.Kv
namespace Go.Proofs.YtjnbbfhoegeppaaGreatDoor
open Go.RowKit Go.Cv Go.Cv.Dk Go.Cv.Wal Go.Cv.Kv
/-- A reader of the answer's: what is still to be read, whether it failed; its bytes lie in a block of src. -/
structure RrAt (w : World) (p : Nat) (src : List Nat) (l : List UInt8) (bad : Bool) : Prop where
  row : ∃ A c, Row w p 136 [.slice A l.length c, .bool bad] ∧ l.length ≤ c ∧ c ≤ maxLen ∧ Rd w A (l.map bv) ∧ (l = [] ∨ ∀ x ∈ rowOf A, x ∈ src) ∧ (A = none → c = 0 ∨ src = [])
theorem RrAt.keep {w w' : World} {p : Nat} {src bs : List Nat} {l : List UInt8} {bad : Bool} (h : RrAt w p src l bad) (hk : Keep bs w w') (hp : p ∉ bs) (hs : ∀ x ∈ src, x ∉ bs) : RrAt w' p src l bad := by
  obtain ⟨A, c, h1, h2, h3, h4, h5, h6⟩ := h.row
  exact ⟨A, c, h1.keep hk hp, h2, h3, rd_src h4 h5 hk hs, h5, h6⟩
theorem RrAt.ext {w w' : World} {p : Nat} {src : List Nat} {l : List UInt8} {bad : Bool} (h : RrAt w p src l bad) (hx : Ext w w') : RrAt w' p src l bad := h.keep (Keep.of_ext (bs := []) hx) (by simp) (by simp)
theorem cutA_none {A : Option Addr} {l m s : Nat} (h : cutA A l m s = none) : A = none := by
  unfold cutA at h
  split at h
  · exact h
  · rcases A with _ | ad
    · rfl
    · cases h
/-- What a reader took. -/
def Rtok (w : World) (p : Nat) (src : List Nat) (t r : List UInt8) (bad : Bool) (e : Ending) (w' : World) : Prop :=
  ∃ A c, e = .returned (.slice A t.length c) ∧ t.length ≤ c ∧ c ≤ maxLen ∧ (A = none → c = 0 ∨ src = []) ∧ Rd w' A (t.map bv) ∧ (t = [] ∨ ∀ x ∈ rowOf A, x ∈ src) ∧ RrAt w' p src r bad ∧ Keep [p] w w'
set_option maxHeartbeats 1600000 in
theorem rtake_any (p : Nat) (src : List Nat) (l : List UInt8) (bad : Bool) (n : Nat) (w : World) (h : RrAt w p src l bad) (hp : p ∉ src) (hn : n ≤ 281474976710656) :
    Calls Tryz.prog 80 #[.pointer (some ⟨p, 0, none⟩), .int .i64 n] w (Rtok w p src (tkS n l).1 (tkS n l).2.1 (bad || (tkS n l).2.2)) := by
  refine calls_hid fun G hG => ?_
  obtain ⟨A, c, hrow, hlc, hcm, hrd, hsrc, hnl⟩ := h.row
  have c0 : w.cell? ⟨p, 0, none⟩ = some (.slice A l.length c) := hrow.cell (i := 0) (by simp)
  have c1 : w.cell? ⟨p, 1, none⟩ = some (.bool bad) := hrow.cell (i := 1) (by simp)
  have f0 := hrow.fro 0
  have f1 := hrow.fro 1
  have hlt := hrow.lt
  by_cases hle : n ≤ l.length
  · have hg : ∀ w', w' = w.setCell ⟨p, 0, none⟩ (.slice (cutA A n c 1) (l.length - n) (c - n)) → G (.returned (.slice A n c)) w' := fun w' e => hG.out _ _ (by
      subst e
      have hk := Keep.setCell w ⟨p, 0, none⟩ (.slice (cutA A n c 1) (l.length - n) (c - n))
      rw [tkS_ok hle]
      have hl : (l.take n).length = n := by rw [List.length_take]; omega
      have hrd' : Rd (w.setCell ⟨p, 0, none⟩ (.slice (cutA A n c 1) (l.length - n) (c - n))) A (l.map bv) := rd_src hrd hsrc hk (by intro x hx hm; rw [List.mem_singleton.1 hm] at hx; exact hp hx)
      refine ⟨A, c, by rw [hl], by rw [hl]; omega, hcm, hnl, by rw [List.map_take]; exact hrd'.take n, hsrc.imp (fun e => by rw [e]; simp) id, ⟨_, c - n, ?_, by rw [List.length_drop]; omega, by omega, by rw [List.map_drop]; exact hrd'.cutA_ (by rw [List.length_map]; exact hlc), hsrc.imp (fun e => by rw [e]; simp) fun hs x hx => hs x (cutA_row x hx), fun e => (hnl (cutA_none e)).imp (fun h => by rw [h]; omega) id⟩, hk⟩
      have := hrow.set 0 (.slice (cutA A n c 1) (l.length - n) (c - n))
      simpa using this)
    replace hg := Lib.hid hg
    have q1 : decide ((n : Int) < 0) = false := by simp
    have q2 : decide ((n : Int) > (l.length : Int)) = false := by simpa using hle
    clear hG hrd hrow h hsrc
    generalize l.length = m at *
    go_enter Tryz.func80, Tryz.ntmps80
    go_wp2
    exact hg.out _ rfl
  · have hg : ∀ w', w' = w.setCell ⟨p, 1, none⟩ (.bool true) → G (.returned (.slice none 0 0)) w' := fun w' e => hG.out _ _ (by
      subst e
      have hk := Keep.setCell w ⟨p, 1, none⟩ (.bool true)
      rw [tkS_no hle]
      have hrd' : Rd (w.setCell ⟨p, 1, none⟩ (.bool true)) A (l.map bv) := rd_src hrd hsrc hk (by intro x hx hm; rw [List.mem_singleton.1 hm] at hx; exact hp hx)
      refine ⟨none, 0, rfl, Nat.le_refl _, by unfold maxLen; omega, fun _ => .inl rfl, Rd.nil_, .inl rfl, ⟨A, c, ?_, hlc, hcm, hrd', hsrc, hnl⟩, hk⟩
      have := hrow.set 1 (.bool true)
      simpa using this)
    replace hg := Lib.hid hg
    have q1 : decide ((n : Int) < 0) = false := by simp
    have q2 : decide ((n : Int) > (l.length : Int)) = true := by simpa using hle
    have hle' : l.length < n := by omega
    clear hG hrd hrow h hsrc
    generalize l.length = m at *
    go_enter Tryz.func80, Tryz.ntmps80
    go_wp2
    exact hg.out _ rfl
theorem RrAt.mark {w : World} {p : Nat} {src : List Nat} {l : List UInt8} {bad : Bool} (h : RrAt w p src l bad) (hp : p ∉ src) : RrAt (w.setCell ⟨p, 1, none⟩ (.bool true)) p src l true ∧ Keep [p] w (w.setCell ⟨p, 1, none⟩ (.bool true)) := by
  obtain ⟨A, c, h1, h2, h3, h4, h5, h6⟩ := h.row
  have hk := Keep.setCell w ⟨p, 1, none⟩ (.bool true)
  refine ⟨⟨A, c, ?_, h2, h3, rd_src h4 h5 hk (by intro x hx hm; rw [List.mem_singleton.1 hm] at hx; exact hp hx), h5, h6⟩, hk⟩
  have := h1.set 1 (.bool true)
  simpa using this
theorem RrAt.flag {w : World} {p : Nat} {src : List Nat} {l : List UInt8} {bad : Bool} (h : RrAt w p src l bad) : w.cell? ⟨p, 1, none⟩ = some (.bool bad) ∧ w.frozen? ⟨p, 1, none⟩ = false := by
  obtain ⟨A, c, h1, _⟩ := h.row
  exact ⟨h1.cell (i := 1) (by simp), h1.fro 1⟩
set_option maxRecDepth 4000 in
set_option maxHeartbeats 3200000 in
theorem rnum_any (p : Nat) (src : List Nat) (l : List UInt8) (bad : Bool) (n : Nat) (w : World) (h : RrAt w p src l bad) (hp : p ∉ src) (hn : n ≤ 8) :
    Calls Tryz.prog 79 #[.pointer (some ⟨p, 0, none⟩), .int .i64 n] w fun e w' => e = .returned (.int .i64 (((rnS n l).1 : Nat) : Int)) ∧ RrAt w' p src (rnS n l).2.1 (bad || (rnS n l).2.2) ∧ Keep [p] w w' := by
  refine calls_hid fun G hG => ?_
  have hT := rtake_any p src l bad n w h hp (by omega)
  have hle := (tkS_len n l).1
  by_cases hbig : (tkS n l).1.length = 8 ∧ 9223372036854775808 ≤ num (tkS n l).1
  · have hg : ∀ w', RrAt w' p src (tkS n l).2.1 true → Keep [p] w w' → G (.returned (.int .i64 0)) w' := fun w' h1 h2 => hG.out _ _ (by
      have e : rnS n l = (0, (tkS n l).2.1, true) := if_pos hbig
      rw [e]
      exact ⟨rfl, by simpa using h1, h2⟩)
    generalize (tkS n l).1 = t at *
    generalize (tkS n l).2.1 = r at *
    generalize (bad || (tkS n l).2.2) = bd at *
    obtain ⟨h8, hbg⟩ := hbig
    rw [num_top h8] at hbg
    have q1 : decide (n8 (t[7]'(by omega)) > 127) = true := decide_eq_true (by unfold n8; omega)
    replace hg := Lib.hid hg
    replace hbg := Lib.hid hbg
    clear hG h
    go_enter Tryz.func79, Tryz.ntmps79
    go_wp2_with (go_at_call 80; (with_reducible refine hT.mono ?_); rintro e w2 ⟨A, c, rfl, hcc, hcm, hnl, hrd, hsr, hR, hK⟩)
    have hc7 : ∃ ad, A = some ad ∧ w2.cell? ⟨ad.block, ad.off + 7, none⟩ = some (.int .u8 (n8 (t[7]'(by omega)))) := by
      obtain ⟨ad, e, hc⟩ := hrd.at_ (k := 7) (by simp; omega)
      rw [List.getElem_map] at hc
      exact ⟨ad, e, hc⟩
    obtain ⟨ad, rfl, hc7⟩ := hc7
    have hfl := hR.flag
    obtain ⟨hf1, hf2⟩ := hfl
    have hM := Lib.hid (hR.mark hp)
    replace hR := Lib.hid hR
    replace hK := Lib.hid hK
    have hcell : ∀ k, k < 8 → ∃ b : UInt8, w2.cell? (ad.add k) = some (.int .u8 (n8 b)) := fun k hk => by
      obtain ⟨ad', e, hc⟩ := hrd.at_ (k := k) (by simp; omega)
      injection e with e
      subst e
      rw [List.getElem_map] at hc
      exact ⟨_, hc⟩
    replace hrd := Lib.hid hrd
    replace h8 := Lib.hid h8
    have hfin : ∀ w', w' = w2.setCell ⟨p, 1, none⟩ (.bool true) → G (.returned (.int .i64 0)) w' := fun w' e => by
      subst e
      exact hg.out _ hM.out.1 (hK.out.same hM.out.2)
    replace hfin := Lib.hid hfin
    clear hM
    go_loop [6, 7] (fun v i => ∃ (k : Nat) (z : Int), k ≤ 8 ∧ i = .int .i64 ((k : Int) - 1) ∧ v = .int .i64 z) (fun _ i => (intOf i + 1).toNat)
    case atStart => exact ⟨8, 0, Nat.le_refl _, rfl, rfl⟩
    case round =>
      obtain ⟨k, z, hk, rfl, rfl⟩ := hrel
      rcases k with _ | k
      · rw [show (((0 : Nat) : Int) - 1) = -1 from rfl]
        go_wp2
        exact hfin.out _ rfl
      · obtain ⟨b, hc⟩ := hcell k (by omega)
        rw [show (((k + 1 : Nat) : Int) - 1) = (k : Int) from by omega]
        have hcp := hcell
        clear hcell
        go_wp2
        go_round
        case rel => exact ⟨k, _, by omega, by go_num, rfl⟩
        case measure => simp [intOf]
  · have hg : ∀ w', RrAt w' p src (tkS n l).2.1 (bad || (tkS n l).2.2) → Keep [p] w w' → G (.returned (.int .i64 (num (tkS n l).1 : Nat))) w' := fun w' h1 h2 => hG.out _ _ (by
      have e : rnS n l = (num (tkS n l).1, (tkS n l).2.1, (tkS n l).2.2) := if_neg hbig
      rw [e]
      exact ⟨rfl, h1, h2⟩)
    generalize (tkS n l).1 = t at *
    generalize (tkS n l).2.1 = r at *
    generalize (bad || (tkS n l).2.2) = bd at *
    have htb : t.length ≤ 8 := by omega
    have hlt : num t < 9223372036854775808 := by
      by_cases h8 : t.length = 8
      · omega
      · have := num_bd (l := t) (n := 7) (by omega)
        have e1 : (256 : Nat) ^ 7 = 72057594037927936 := by decide
        omega
    replace hg := Lib.hid hg
    clear hG h
    go_enter Tryz.func79, Tryz.ntmps79
    go_wp2_with (go_at_call 80; (with_reducible refine hT.mono ?_); rintro e w2 ⟨A, c, rfl, hcc, hcm, hnl, hrd, hsr, hR, hK⟩)
    replace hR := Lib.hid hR
    replace hK := Lib.hid hK
    replace hbig := Lib.hid hbig
    replace hle := Lib.hid hle
    go_loop [6, 7] (fun v i => ∃ (k : Nat), k ≤ t.length ∧ i = .int .i64 ((k : Int) - 1) ∧ v = .int .i64 (num (t.drop k) : Nat)) (fun _ i => (intOf i + 1).toNat)
    case atStart => exact ⟨t.length, Nat.le_refl _, by first | rfl | go_num, by rw [List.drop_length]; rfl⟩
    case round =>
      obtain ⟨k, hk, rfl, rfl⟩ := hrel
      rcases k with _ | k
      · rw [show (((0 : Nat) : Int) - 1) = -1 from rfl]
        rw [List.drop_zero]
        generalize hz : num t = z at *
        replace hz := Lib.hid hz
        by_cases h8 : t.length = 8
        · have hnt := fun hh => hbig.out ⟨h8, by rw [← hz.out]; exact (num_top h8).2 hh⟩
          have q1 : decide (n8 (t[7]'(by omega)) > 127) = false := decide_eq_false (by unfold n8; intro hh; exact hnt (by omega))
          obtain ⟨ad, rfl, hc7⟩ := hrd.at_ (k := 7) (by simp; omega)
          rw [List.getElem_map] at hc7
          have hc7' : w2.cell? ⟨ad.block, ad.off + 7, none⟩ = some (.int .u8 (n8 (t[7]'(by omega)))) := hc7
          have q0 : ((t.length : Int) == 8) = true := by rw [h8]; rfl
          replace h8 := Lib.hid h8
          go_wp2
          exact hg.out _ hR.out hK.out
        · have q0 : ((t.length : Int) == 8) = false := by
            refine beq_false_of_ne fun e => h8 (by omega)
          replace h8 := Lib.hid h8
          go_wp2
          exact hg.out _ hR.out hK.out
      · obtain ⟨ad, rfl, hc⟩ := hrd.at_ (k := k) (by simp; omega)
        rw [List.getElem_map] at hc
        rw [show (((k + 1 : Nat) : Int) - 1) = (k : Int) from by omega]
        have hd := num_drop (l := t) (k := k) (by omega)
        have hdl := num_drop_lt (t := t) (k := k + 1) htb (by omega)
        have hz : num (t.drop k) < 9223372036854775808 := by
          rcases k with _ | k
          · rw [List.drop_zero]; exact hlt
          · have := num_drop_lt (t := t) (k := k + 1) htb (by omega)
            omega
        generalize num (t.drop (k + 1)) = x at *
        generalize hzz : num (t.drop k) = z at *
        replace hzz := Lib.hid hzz
        obtain ⟨y, hy⟩ : ∃ y, y = 256 * x := ⟨_, rfl⟩
        have e1 : wrap64 (256 * (x : Int)) = (y : Int) := by rw [IntWalk.wrap64_in _ (by omega)]; omega
        have e2 : wrap64 ((y : Int) + n8 t[k]) = (z : Int) := by
          have : n8 t[k] = ((t[k]).toNat : Int) := rfl
          rw [this, IntWalk.wrap64_in _ (by omega)]; omega
        clear hy hd hdl
        have hk' : k < t.length := by omega
        go_wp2
        go_round
        case rel => exact ⟨k, by omega, by go_num, by rw [hzz.out, e2]⟩
        case measure => simp [intOf]
end Go.Proofs.YtjnbbfhoegeppaaGreatDoor
