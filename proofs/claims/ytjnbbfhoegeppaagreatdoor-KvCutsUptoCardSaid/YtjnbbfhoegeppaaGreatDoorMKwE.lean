/-
  Walks of the answer's reader: a batch's record.
-/
import Derived.Test.YtjnbbfhoegeppaaGreatDoorMKwD
import Derived.Test.YtjnbbfhoegeppaaGreatDoorMKvD
set_option linter.unusedSimpArgs false
set_option linter.unusedVariables false
namespace Go.Cv.Kv
open Go Go.Cv.Dk
theorem WProg.worse {n k : Nat} {b0 b : List UInt8} {W : List PW} (h : WProg n b0 k W b false) (hk : k < n) (hb : (wrtS b).2.2 = true) : wrtsD n b0 = none ∧ W.length = k := by
  have h1 := h.step hk
  rw [hb] at h1
  have := h1.2
  simp only [if_true] at this
  exact ⟨this, h.1⟩
end Go.Cv.Kv
namespace Go.Proofs.YtjnbbfhoegeppaaGreatDoor
open Go.RowKit Go.Cv Go.Cv.Dk Go.Cv.Wal Go.Cv.Kv
section
variable (p : Nat) (src : List Nat) (l : List UInt8) (bad : Bool) (w : World) (h : RrAt w p src l bad) (hp : p ∉ src)
include h hp
theorem rnum1 : Calls Tryz.prog 79 #[.pointer (some ⟨p, 0, none⟩), .int .i64 1] w fun e w' => e = .returned (.int .i64 ((num (tkS 1 l).1 : Nat) : Int)) ∧ RrAt w' p src (tkS 1 l).2.1 (bad || (tkS 1 l).2.2) ∧ Keep [p] w w' := by
  have := rnum_any p src l bad 1 w h hp (by omega)
  rw [rnS_of (by omega)] at this
  exact this
theorem rnum2 : Calls Tryz.prog 79 #[.pointer (some ⟨p, 0, none⟩), .int .i64 2] w fun e w' => e = .returned (.int .i64 ((num (tkS 2 l).1 : Nat) : Int)) ∧ RrAt w' p src (tkS 2 l).2.1 (bad || (tkS 2 l).2.2) ∧ Keep [p] w w' := by
  have := rnum_any p src l bad 2 w h hp (by omega)
  rw [rnS_of (by omega)] at this
  exact this
theorem rnum4 : Calls Tryz.prog 79 #[.pointer (some ⟨p, 0, none⟩), .int .i64 4] w fun e w' => e = .returned (.int .i64 ((num (tkS 4 l).1 : Nat) : Int)) ∧ RrAt w' p src (tkS 4 l).2.1 (bad || (tkS 4 l).2.2) ∧ Keep [p] w w' := by
  have := rnum_any p src l bad 4 w h hp (by omega)
  rw [rnS_of (by omega)] at this
  exact this
theorem rnum8 : Calls Tryz.prog 79 #[.pointer (some ⟨p, 0, none⟩), .int .i64 8] w fun e w' => e = .returned (.int .i64 (((rnS 8 l).1 : Nat) : Int)) ∧ RrAt w' p src (rnS 8 l).2.1 (bad || (rnS 8 l).2.2) ∧ Keep [p] w w' := rnum_any p src l bad 8 w h hp (by omega)
end
theorem rr_ty {w : World} {p : Nat} {src : List Nat} {l : List UInt8} {bad : Bool} (h : RrAt w p src l bad) : Ty w p 136 := by
  obtain ⟨A, c, h1, _⟩ := h.row
  exact Ty.of_row h1
/-- A write whose value lies among the bytes that are read. -/
def RVok (w : World) (src : List Nat) (x : WV) : Prop := x.Ok w ∧ (x.v = [] ∨ ∀ y ∈ rowOf x.A, y ∈ src)
/-- Where the answer's loop over writes stands. -/
structure RWst (w wr : World) (src : List Nat) (T : Option Addr) (k c' : Nat) (L : List WV) (b : List UInt8) (bd : Bool) : Prop where
  R : RrAt wr w.heap.size src b bd
  own : wr.ownsRow w.heap.size 45 3 (.slice T k c') k (L.flatMap WV.cells)
  pT : w.heap.size ∉ rowOf T
  V : ∀ x ∈ L, RVok w src x
  E : Ext w wr
theorem RWst.by {w wr wr' : World} {src bs : List Nat} {T : Option Addr} {k c' : Nat} {L : List WV} {b b' : List UInt8} {bd bd' : Bool} (h : RWst w wr src T k c' L b bd) (hk : Keep bs wr wr') (hbs : ∀ x ∈ bs, w.heap.size ≤ x ∧ x ∉ rowOf T) (hR : RrAt wr' w.heap.size src b' bd') : RWst w wr' src T k c' L b' bd' :=
  ⟨hR, own_keep h.own hk fun g hg hm => (hbs g hm).2 (by
    rcases T with _ | ad
    · cases hg
    · simp [Value.ownBlock] at hg; simp [rowOf, hg]), h.pT, h.V, ext_keep h.E hk fun x hx => (hbs x hx).1⟩
section
variable {w wr wr' : World} {src : List Nat} {T : Option Addr} {k c' : Nat} {L : List WV} {b b' : List UInt8} {bd bd' : Bool}
theorem RWst.rdr (h : RWst w wr src T k c' L b bd) (hk : Keep [w.heap.size] wr wr') (hR : RrAt wr' w.heap.size src b' bd') : RWst w wr' src T k c' L b' bd' :=
  h.by hk (fun x hx => by rw [List.mem_singleton.1 hx]; exact ⟨Nat.le_refl _, h.pT⟩) hR
theorem RWst.ext (h : RWst w wr src T k c' L b bd) (hx : Ext wr wr') : RWst w wr' src T k c' L b bd := h.by (Keep.of_ext (bs := []) hx) (by simp) (h.R.ext hx)
theorem RWst.mark (h : RWst w wr src T k c' L b bd) (hp : w.heap.size ∉ src) : RWst w (wr.setCell ⟨w.heap.size, 1, none⟩ (.bool true)) src T k c' L b true := h.rdr (h.R.mark hp).2 (h.R.mark hp).1
theorem RWst.plt (h : RWst w wr src T k c' L b bd) : w.heap.size < wr.heap.size := by
  obtain ⟨A, c, h1, _⟩ := h.R.row
  exact h1.lt
theorem RWst.box {bx i : Nat} {U : TypeId} {v : Value} (h : RWst w wr src T k c' L b bd) (hss : ∀ x ∈ src, x < w.heap.size) (hty : Ty wr bx U) (hb : w.heap.size < bx) (hT : bx ∉ rowOf T) : RWst w (wr.setCell ⟨bx, i, none⟩ v) src T k c' L b bd := by
  have hk := Keep.setCell wr ⟨bx, i, none⟩ v
  refine h.by hk (fun x hx => ?_) (h.R.keep hk (fun hm => by have := List.mem_singleton.1 hm; simp at this; omega) fun x hx hm => by have := List.mem_singleton.1 hm; simp at this; have := hss x hx; omega)
  have hx' : x = bx := List.mem_singleton.1 hx
  rw [hx']
  exact ⟨by omega, hT⟩
theorem RWst.push {w7 w8 : World} {T8 : Option Addr} {c8 : Nat} {x : WV} (h : RWst w wr src T k c' L b bd) (hss : ∀ x ∈ src, x < w.heap.size) (hx : RVok w src x) (h67 : Ext wr w7) (hk : Keep (rowOf T) w7 w8)
    (ho : w8.ownsRow w.heap.size 45 3 (.slice T8 (k + 1) c8) (k + 1) (L.flatMap WV.cells ++ x.cells)) (hn : ∀ y ∈ rowOf T8, y ∈ rowOf T ∨ w7.heap.size ≤ y) : RWst w w8 src T8 (k + 1) c8 (L ++ [x]) b bd := by
  have h7 := h.ext h67
  refine ⟨h7.R.keep hk h.pT fun y hy hm => ?_, by rw [List.flatMap_append]; simpa using ho, fun hm => ?_, fun z hz => ?_, ext_keep h7.E hk (base_le h7.own)⟩
  · have h1 := hss y hy
    have h2 := base_le h.own y hm
    omega
  · rcases hn _ hm with h1 | h1
    · exact h.pT h1
    · have := h7.plt; omega
  · rcases List.mem_append.1 hz with hz | hz
    · exact h.V z hz
    · rw [List.mem_singleton.1 hz]; exact hx
theorem RWst.ws (h : RWst w wr src T k c' L b bd) : L.length = k ∧ WsAt wr T L ∧ ∀ y ∈ rowOf T, w.heap.size ≤ y := by
  refine ⟨?_, ⟨rd_own h.own, fun x hx => (h.V x hx).1.ext h.E⟩, base_le h.own⟩
  have := h.own.1
  rw [wcells_len] at this
  omega
theorem rd_back {A : Option Addr} {xs : List Value} (hx : Ext w wr) (hr : Rd wr A xs) (hA : xs = [] ∨ ∀ y ∈ rowOf A, y < w.heap.size) : Rd w A xs := by
  rcases hA with rfl | hA
  · exact Rd.nil_
  · intro k v hv
    obtain ⟨ad, e, hc⟩ := hr k v hv
    refine ⟨ad, e, ?_⟩
    rw [← hc]
    exact (Below.cell hx (p := ad.add k) (by rw [add_block]; exact hA _ (by simp [rowOf, e]))).symm
theorem RWst.vok {A : Option Addr} {v : List UInt8} {c : Nat} (h : RWst w wr src T k c' L b bd) (hss : ∀ x ∈ src, x < w.heap.size) (hr : Rd wr A (v.map bv)) (hs : v = [] ∨ ∀ y ∈ rowOf A, y ∈ src) (hn : A = none → c = 0) (ky : ByteArray) (d : Bool) (hk : ky.size ≤ 255) (hv : v.length ≤ 1099511627776) : RVok w src ⟨ky, A, c, v, d⟩ :=
  ⟨⟨rd_back h.E hr (hs.imp (fun e => by rw [e]; rfl) fun hs y hy => hss y (hs y hy)), hn, by show ky.size ≤ _; omega, hv⟩, hs⟩
end
theorem rvok_none (w : World) (src : List Nat) (ky : ByteArray) (d : Bool) (hk : ky.size ≤ 255) : RVok w src ⟨ky, none, 0, [], d⟩ := ⟨⟨Rd.nil_, fun _ => rfl, by show ky.size ≤ _; omega, by simp⟩, .inl rfl⟩
theorem rwr_next {w w8 : World} {src : List Nat} {T8 : Option Addr} {N k c8 : Nat} {L : List WV} {x : WV} {b0 b b' : List UInt8} {bd : Bool} (hW : RWst w w8 src T8 (k + 1) c8 (L ++ [x]) b' bd) (hz : wrtS b = (x.pw, b', bd))
    (hS : WProg N b0 (k + 1) (L.map WV.pw ++ [(wrtS b).1]) (wrtS b).2.1 (wrtS b).2.2) : Hid (RWst w w8 src T8 (k + 1) c8 (L ++ [x]) b' (false || bd)) ∧ Hid (WProg N b0 (k + 1) ((L ++ [x]).map WV.pw) b' bd) := by
  rw [hz] at hS
  exact ⟨Lib.hid (by rw [Bool.false_or]; exact hW), Lib.hid (by rw [List.map_append]; exact hS)⟩
theorem rwr_bad {w w8 : World} {src : List Nat} {T8 : Option Addr} {N k c8 : Nat} {L : List WV} {x : WV} {b0 b' : List UInt8} {bd : Bool} (hW : RWst w w8 src T8 (k + 1) c8 (L ++ [x]) b' bd) (hS : wrtsD N b0 = none ∧ (L.map WV.pw).length = k) (hbd : bd = true) :
    Hid (RWst w w8 src T8 (k + 1) c8 (L ++ [x]) b' (false || true)) ∧ Hid (WProg N b0 (k + 1) ((L ++ [x]).map WV.pw) b' true) := by
  subst hbd
  exact ⟨Lib.hid hW, Lib.hid ⟨by have := hS.2; simp at this; simp [this], by simpa using hS.1⟩⟩
/-- What the answer's reading of a batch's record leaves. -/
def Rwrote (w : World) (src : List Nat) (r : List UInt8) (e : Ending) (w' : World) : Prop :=
  Ext w w' ∧ ((∃ z, batD r = some z ∧ z.1 < 9223372036854775808 ∧ ∃ T cT L, z.2 = L.map WV.pw ∧ e = .returned (.tuple #[.int .i64 (z.1 : Nat), .slice T L.length cT, .bool true]) ∧ WsAt w' T L ∧ (∀ y ∈ rowOf T, w.heap.size ≤ y) ∧ ∀ x ∈ L, x.v = [] ∨ ∀ y ∈ rowOf x.A, y ∈ src) ∨
    ((∀ z, batD r = some z → 9223372036854775808 ≤ z.1) ∧ ∃ v1 v2, e = .returned (.tuple #[v1, v2, .bool false])))
theorem batD_r (r : List UInt8) : (∀ z, batD r = some z → z.1 < 9223372036854775808 → ((rnS 8 r).2.2 || (tkS 2 (rnS 8 r).2.1).2.2) = false) ∧
    (((rnS 8 r).2.2 || (tkS 2 (rnS 8 r).2.1).2.2) = false → batD r = (wrtsD (num (tkS 2 (rnS 8 r).2.1).1) (tkS 2 (rnS 8 r).2.1).2.1).bind fun z => if z.2 = [] ∧ 1 ≤ num (tkS 2 (rnS 8 r).2.1).1 ∧ num (tkS 2 (rnS 8 r).2.1).1 ≤ 4096 then some ((rnS 8 r).1, z.1) else none) ∧
    (((rnS 8 r).2.2 || (tkS 2 (rnS 8 r).2.1).2.2) = false → (rnS 8 r).1 < 9223372036854775808) := by
  by_cases h : (tkS 8 r).1.length = 8 ∧ 9223372036854775808 ≤ num (tkS 8 r).1
  · have e : rnS 8 r = (0, (tkS 8 r).2.1, true) := if_pos h
    rw [e]
    refine ⟨fun z hz hlt => ?_, fun h => by simp at h, fun h => by simp at h⟩
    rw [batD_S] at hz
    by_cases hq : ((tkS 8 r).2.2 || (tkS 2 (tkS 8 r).2.1).2.2) = true
    · rw [if_pos hq] at hz; cases hz
    · rw [if_neg hq, Option.bind_eq_some_iff] at hz
      obtain ⟨y, _, hy⟩ := hz
      split at hy
      · injection hy with hy
        rw [← hy] at hlt
        exact absurd hlt (by show ¬ num (tkS 8 r).1 < _; omega)
      · cases hy
  · have e : rnS 8 r = (num (tkS 8 r).1, (tkS 8 r).2.1, (tkS 8 r).2.2) := if_neg h
    rw [e]
    refine ⟨fun z hz hlt => ?_, fun h => by rw [batD_S]; simp only at h; rw [h]; simp, fun h2 => ?_⟩
    · rw [batD_S] at hz
      by_cases hq : ((tkS 8 r).2.2 || (tkS 2 (tkS 8 r).2.1).2.2) = true
      · rw [if_pos hq] at hz; cases hz
      · simpa using hq
    · have h8 := (tkS_len 8 r).1
      show num (tkS 8 r).1 < _
      by_cases hl : (tkS 8 r).1.length = 8
      · have : ¬ 9223372036854775808 ≤ num (tkS 8 r).1 := fun hh => h ⟨hl, hh⟩
        omega
      · have := num_bd (l := (tkS 8 r).1) (n := 7) (by omega)
        have e1 : (256 : Nat) ^ 7 = 72057594037927936 := by decide
        omega
set_option maxRecDepth 4000 in
set_option maxHeartbeats 12800000 in
theorem rbatch_any (src : List Nat) (A : Option Addr) (n c : Nat) (r : List UInt8) (w : World) (hl : r.length = n) (hr : Rd w A (r.map bv)) (hc : n ≤ c) (hm : c ≤ maxLen) (hnl : A = none → c = 0 ∨ src = []) (hsrc : r = [] ∨ ∀ x ∈ rowOf A, x ∈ src) (hss : ∀ x ∈ src, x < w.heap.size) :
    Calls Tryz.prog 61 #[.slice A n c] w (Rwrote w src r) := by
  refine calls_hid fun G hG => ?_
  have hx0 := ext_alloc w (.cells #[.slice A n c, .bool false] 136)
  have hR0 : RrAt (w.alloc (.cells #[.slice A n c, .bool false] 136)) w.heap.size src r false := ⟨A, c, by rw [hl]; exact Row.alloc w [.slice A n c, .bool false] _, by omega, hm, hr.ext hx0, hsrc, hnl⟩
  have hps : w.heap.size ∉ src := fun h => by have := hss _ h; omega
  have hN8 := rnum8 w.heap.size src r false _ hR0 hps
  have hb2 := tk2_bd (rnS 8 r).2.1
  have hN2 := fun w' bd (h' : RrAt w' w.heap.size src (rnS 8 r).2.1 bd) => rnum2 w.heap.size src (rnS 8 r).2.1 bd w' h' hps
  obtain ⟨hbat1, hbat2, hbat3⟩ := batD_r r
  go_enter Tryz.func61, Tryz.ntmps61
  go_wp2_with (first
    | (go_at_call 79; (with_reducible refine hN8.mono ?_); rintro e' w1 ⟨rfl, hR1, hK1⟩)
    | (go_at_call 79; (with_reducible refine (hN2 _ _ hR1).mono ?_); rintro e' w2 ⟨rfl, hR2, hK2⟩))
  have hE2 : Ext w w2 := ext_keep (ext_keep hx0 hK1 (by simp)) hK2 (by simp)
  have hplt2 : w.heap.size < w2.heap.size := by have h1 := hK1.size; have h2 := hK2.size; simp at h1; omega
  have hgo : ∀ T cT L b bad wr k, WProg (num (tkS 2 (rnS 8 r).2.1).1) (tkS 2 (rnS 8 r).2.1).2.1 k (L.map WV.pw) b bad → bad = false → k = num (tkS 2 (rnS 8 r).2.1).1 → ((false || (rnS 8 r).2.2) || (tkS 2 (rnS 8 r).2.1).2.2) = false → Ext w wr → WsAt wr T L → (∀ y ∈ rowOf T, w.heap.size ≤ y) → (∀ x ∈ L, RVok w src x) →
      G (.returned (.tuple #[.int .i64 ((rnS 8 r).1 : Nat), .slice T L.length cT, .bool (decide (b = [] ∧ 1 ≤ k ∧ k ≤ 4096))])) wr := fun T cT L b bad wr k hP hbd hk hf hE hW hT hx => by
    subst hbd hk
    refine hG.out _ _ ⟨hE, ?_⟩
    have hf' : ((rnS 8 r).2.2 || (tkS 2 (rnS 8 r).2.1).2.2) = false := by simpa using hf
    rw [hbat2 hf', hP.done]
    simp only [Option.bind_some]
    by_cases hq : b = [] ∧ 1 ≤ num (tkS 2 (rnS 8 r).2.1).1 ∧ num (tkS 2 (rnS 8 r).2.1).1 ≤ 4096
    · rw [if_pos hq, decide_eq_true hq]
      exact .inl ⟨_, rfl, hbat3 hf', T, cT, L, rfl, rfl, hW, hT, fun x hxm => (hx x hxm).2⟩
    · rw [if_neg hq, decide_eq_false hq]
      exact .inr ⟨(by intro z hz; cases hz), _, _, rfl⟩
  have hgb : ∀ v L b bad wr k, WProg (num (tkS 2 (rnS 8 r).2.1).1) (tkS 2 (rnS 8 r).2.1).2.1 k L b bad → (bad = true ∨ ((false || (rnS 8 r).2.2) || (tkS 2 (rnS 8 r).2.1).2.2) = true) → Ext w wr →
      G (.returned (.tuple #[.int .i64 ((rnS 8 r).1 : Nat), v, .bool false])) wr := fun v L b bad wr k hP hbd hE => by
    refine hG.out _ _ ⟨hE, .inr ⟨fun z hz => ?_, _, _, rfl⟩⟩
    rcases Nat.lt_or_ge z.1 9223372036854775808 with hlt | hge
    · have hf := hbat1 z hz hlt
      rcases hbd with rfl | hbd
      · have h2 := hP.2
        simp only [if_true] at h2
        rw [hbat2 hf, h2] at hz
        cases hz
      · rw [Bool.false_or, hf] at hbd; cases hbd
    · exact hge
  have hsn : ((false || (rnS 8 r).2.2) || (tkS 2 (rnS 8 r).2.1).2.2) = false → src ≠ [] := fun hf he => by
    rcases r with _ | ⟨x, y⟩
    · have e1 : rnS 8 [] = (0, [], true) := by unfold rnS; rw [tkS_no (by simp)]; simp [num]
      rw [e1] at hf
      simp at hf
    · obtain ⟨ad, rfl, _⟩ := hr.some_ (by simp)
      rcases hsrc with h | h
      · cases h
      · have := h ad.block (by simp [rowOf])
        rw [he] at this
        cases this
  replace hgo := Lib.hid hgo
  replace hgb := Lib.hid hgb
  have hP0 := WProg.start (num (tkS 2 (rnS 8 r).2.1).1) (tkS 2 (rnS 8 r).2.1).2.1
  clear hN8 hN2 hbat1 hbat2 hbat3 hG hR1 hR0 hK1 hK2
  generalize ((false || (rnS 8 r).2.2) || (tkS 2 (rnS 8 r).2.1).2.2) = bd0 at *
  generalize (tkS 2 (rnS 8 r).2.1).2.1 = b0 at *
  generalize num (tkS 2 (rnS 8 r).2.1).1 = N at *
  go_loopw [8, 9] (fun t i wr => ∃ (k c' : Nat) (T : Option Addr) (L : List WV) (b : List UInt8) (bad : Bool), k ≤ N ∧ i = .int .i64 k ∧ t = .slice T k c' ∧ Hid (RWst w wr src T k c' L b (bd0 || bad)) ∧ Hid (WProg N b0 k (L.map WV.pw) b bad)) (fun _ i _ => N - (intOf i).toNat)
  case atStart => exact ⟨0, 0, none, [], b0, false, Nat.zero_le _, rfl, rfl, Lib.hid ⟨by rw [Bool.or_false]; exact hR2, World.ownsRow_nil _ _ _ _, by simp [rowOf], by simp, hE2⟩, Lib.hid hP0⟩
  case round =>
    obtain ⟨k, c', T, L, b, bad, hk, rfl, rfl, hW, hP⟩ := hrel
    have c1 := hW.out.R.flag.1
    by_cases hlt : k < N
    · rcases hbad : bd0 || bad with _ | _
      · rw [hbad] at c1
        obtain ⟨hbd0, hbad'⟩ : bd0 = false ∧ bad = false := by simpa using hbad
        subst hbad' hbd0
        replace hsn := hsn rfl
        have hplt := hW.out.plt
        have hN1 := rnum1 w.heap.size src b false wr hW.out.R hps
        have hstep := Lib.hid (hP.out.step hlt)
        have hk1 := tk1_bd b
        have hkl := (tkS_len (num (tkS 1 b).1) (tkS 1 b).2.1).1
        have hkz : (ByteArray.mk (tkS (num (tkS 1 b).1) (tkS 1 b).2.1).1.toArray).size ≤ 255 := by rw [toA_size]; omega
        have hk4 := tk4_bd (tkS 1 (tkS (num (tkS 1 b).1) (tkS 1 b).2.1).2.1).2.1
        have hvl := (tkS_len (num (tkS 4 (tkS 1 (tkS (num (tkS 1 b).1) (tkS 1 b).2.1).2.1).2.1).1) (tkS 4 (tkS 1 (tkS (num (tkS 1 b).1) (tkS 1 b).2.1).2.1).2.1).2.1).1
        have hkS : keyS b = ((tkS (num (tkS 1 b).1) (tkS 1 b).2.1).1, (tkS (num (tkS 1 b).1) (tkS 1 b).2.1).2.1, (tkS 1 b).2.2 || (num (tkS 1 b).1 == 0) || (tkS (num (tkS 1 b).1) (tkS 1 b).2.1).2.2) := rfl
        have hkz' := Lib.hid hkz
        by_cases hn1 : num (tkS 1 b).1 = 0
        · have hbadd : (wrtS b).2.2 = true := by
            have hk2 : (keyS b).2.2 = true := by rw [hkS]; simp [hn1]
            unfold wrtS
            split
            · simp [hk2]
            · split <;> simp [hk2]
          replace hbadd := Lib.hid hbadd
          have z1 : (((num (tkS 1 b).1 : Nat) : Int) == 0) = true := by rw [hn1]; rfl
          replace hn1 := Lib.hid hn1
          by_cases hq : num (tkS 1 (tkS (num (tkS 1 b).1) (tkS 1 b).2.1).2.1).1 = 0
          · have q0 : (((num (tkS 1 (tkS (num (tkS 1 b).1) (tkS 1 b).2.1).2.1).1 : Nat) : Int) == 0) = true := by rw [hq]; rfl
            have q1 : (((num (tkS 1 (tkS (num (tkS 1 b).1) (tkS 1 b).2.1).2.1).1 : Nat) : Int) == 1) = false := by rw [hq]; rfl
            replace hq := Lib.hid hq
            by_cases hbg : 262144 < num (tkS 4 (tkS 1 (tkS (num (tkS 1 b).1) (tkS 1 b).2.1).2.1).2.1).1
            · have q3 : decide (((num (tkS 4 (tkS 1 (tkS (num (tkS 1 b).1) (tkS 1 b).2.1).2.1).2.1).1 : Nat) : Int) > 262144) = true := decide_eq_true (by omega)
              go_wp2_with (first
                | (go_at_call 79; (with_reducible refine hN1.mono ?_); rintro e' w3 ⟨rfl, hR3, hK3⟩; have hW3 := hW.out.rdr hK3 hR3; have hT3 := rtake_any w.heap.size src _ _ (num (tkS 1 b).1) _ hW3.R hps (by omega); replace hR3 := Lib.hid hR3; replace hW3 := Lib.hid hW3)
                | (go_at_call 80; (with_reducible refine hT3.mono ?_); rintro e' w4 ⟨A4, c4, rfl, _, _, _, hrd4, _, hR4, hK4⟩; have hcv := run_convert_rd (P := Tryz.prog) w4 43 9 5 Tryz.underlying43 Tryz.underlying5 Tryz.underlying9 A4 (tkS (num (tkS 1 b).1) (tkS 1 b).2.1).1.length c4 (tkS (num (tkS 1 b).1) (tkS 1 b).2.1).1 rfl hrd4; have hW4 := hW3.out.rdr hK4 hR4; have hW4a := hW4.ext (ext_alloc w4 (.cells #[.string ⟨(tkS (num (tkS 1 b).1) (tkS 1 b).2.1).1.toArray⟩, .slice none 0 0, .bool false] 45)); have hN3 := rnum1 w.heap.size src _ _ _ hW4a.R hps; have hB4 : Row _ w4.heap.size 45 [.string ⟨(tkS (num (tkS 1 b).1) (tkS 1 b).2.1).1.toArray⟩, .slice none 0 0, .bool false] := Row.alloc w4 _ _; have hp4 := Nat.lt_of_lt_of_le hplt (Nat.le_trans hK3.size hK4.size); have hbT : w4.heap.size ∉ rowOf T := (fun hm => by have h1 := row_lt hW.out.own _ hm; have h2 := hK3.size; have h3 := hK4.size; omega); have hne : w4.heap.size ≠ w.heap.size := (by omega); replace hR4 := Lib.hid hR4; replace hW4 := Lib.hid hW4; replace hW4a := Lib.hid hW4a)
                | (go_at_call 79; (with_reducible refine hN3.mono ?_); rintro e' w5 ⟨rfl, hR5, hK5⟩; have hW5 := hW4a.out.rdr hK5 hR5; have hN5 := rnum4 w.heap.size src _ _ _ hW5.R hps; have hB5 := hB4.keep hK5 (fun hm => by have := List.mem_singleton.1 hm; omega); replace hW5 := Lib.hid hW5)
                | (go_at_call 79; (with_reducible refine hN5.mono ?_); rintro e' w6 ⟨rfl, hR6, hK6⟩; have hW6 := hW5.out.rdr hK6 hR6; have gg := hW6.R.flag.1; have gff := hW6.R.flag.2; have hB6 := hB5.keep hK6 (fun hm => by have := List.mem_singleton.1 hm; omega); have hW6m := hW6.mark hps; have hT6 := rtake_any w.heap.size src _ _ (num (tkS 4 (tkS 1 (tkS (num (tkS 1 b).1) (tkS 1 b).2.1).2.1).2.1).1) _ hW6m.R hps (by omega); have hB6m := hB6.keep (hW6.R.mark hps).2 (fun hm => by have := List.mem_singleton.1 hm; omega); replace hW6m := Lib.hid hW6m; replace hB6 := Lib.hid hB6; replace hR6 := Lib.hid hR6; replace hW6 := Lib.hid hW6)
                | (go_at_call 80; (with_reducible refine hT6.mono ?_); rintro e' w7 ⟨A7, c7, rfl, _, _, hnl7, hrd7, hsr7, hR7, hK7⟩; have hW7 := hW6m.out.rdr hK7 hR7; have hB7 := hB6m.keep hK7 (fun hm => by have := List.mem_singleton.1 hm; omega); have g0 : w7.cell? ⟨w4.heap.size, 0, none⟩ = some (.string ⟨(tkS (num (tkS 1 b).1) (tkS 1 b).2.1).1.toArray⟩) := hB7.cell (i := 0) (by simp); have g1 : w7.cell? ⟨w4.heap.size, 1, none⟩ = some (.slice none 0 0) := hB7.cell (i := 1) (by simp); have g2 : w7.cell? ⟨w4.heap.size, 2, none⟩ = some (.bool false) := hB7.cell (i := 2) (by simp); have gf1 := hB7.fro 1; have gf2 := hB7.fro 2; have hW8 := hW7.box (i := 1) (v := .slice A7 (tkS (num (tkS 4 (tkS 1 (tkS (num (tkS 1 b).1) (tkS 1 b).2.1).2.1).2.1).1) (tkS 4 (tkS 1 (tkS (num (tkS 1 b).1) (tkS 1 b).2.1).2.1).2.1).2.1).1.length c7) hss (Ty.of_row hB7) hp4 hbT; have hW9 := hW8.box (i := 2) (v := .bool false) hss (Ty.of_row (hB7.set 1 _)) hp4 hbT; have gg := hW7.R.flag.1; have gff := hW7.R.flag.2; have hW10 := hW9.mark hps)
                | (at_builtin; refine wpList_appfam rfl (.tmp 67) (.tmp 69) 32 45 3 48 rfl writeRow w.heap.size T k c' _ rfl (hW10.ext (ext_alloc _ _)).own ⟨w7.heap.size, 0, none⟩ 1 1 [.string ⟨(tkS (num (tkS 1 b).1) (tkS 1 b).2.1).1.toArray⟩, .slice A7 (tkS (num (tkS 4 (tkS 1 (tkS (num (tkS 1 b).1) (tkS 1 b).2.1).2.1).2.1).1) (tkS 4 (tkS 1 (tkS (num (tkS 1 b).1) (tkS 1 b).2.1).2.1).2.1).2.1).1.length c7, .bool false] rfl rfl (rd_list' _ _ _ (by simp)) (by intro u hu; simp at hu; rcases hu with rfl | rfl | rfl <;> rfl) (by unfold maxLen; omega) (by omega) (Nat.le_of_lt (hW10.ext (ext_alloc _ _)).plt) ?_; intro T8 c8 w8 ho8 hk8 hn8))
              have hps' := hW10.push hss (hW7.vok hss hrd7 hsr7 (fun e => (hnl7 e).resolve_right hsn) _ _ hkz (by omega)) (ext_alloc _ _) hk8 ho8 hn8
              have hfin := rwr_bad hps' (hP.out.worse hlt hbadd.out) rfl
              go_roundw
              case rel => exact ⟨k + 1, c8, T8, _, _, _, hlt, by go_num, rfl, hfin.1, hfin.2⟩
              case measure => simp [intOf]; omega
            · have q3 : decide (((num (tkS 4 (tkS 1 (tkS (num (tkS 1 b).1) (tkS 1 b).2.1).2.1).2.1).1 : Nat) : Int) > 262144) = false := decide_eq_false (by omega)
              go_wp2_with (first
                | (go_at_call 79; (with_reducible refine hN1.mono ?_); rintro e' w3 ⟨rfl, hR3, hK3⟩; have hW3 := hW.out.rdr hK3 hR3; have hT3 := rtake_any w.heap.size src _ _ (num (tkS 1 b).1) _ hW3.R hps (by omega); replace hR3 := Lib.hid hR3; replace hW3 := Lib.hid hW3)
                | (go_at_call 80; (with_reducible refine hT3.mono ?_); rintro e' w4 ⟨A4, c4, rfl, _, _, _, hrd4, _, hR4, hK4⟩; have hcv := run_convert_rd (P := Tryz.prog) w4 43 9 5 Tryz.underlying43 Tryz.underlying5 Tryz.underlying9 A4 (tkS (num (tkS 1 b).1) (tkS 1 b).2.1).1.length c4 (tkS (num (tkS 1 b).1) (tkS 1 b).2.1).1 rfl hrd4; have hW4 := hW3.out.rdr hK4 hR4; have hW4a := hW4.ext (ext_alloc w4 (.cells #[.string ⟨(tkS (num (tkS 1 b).1) (tkS 1 b).2.1).1.toArray⟩, .slice none 0 0, .bool false] 45)); have hN3 := rnum1 w.heap.size src _ _ _ hW4a.R hps; have hB4 : Row _ w4.heap.size 45 [.string ⟨(tkS (num (tkS 1 b).1) (tkS 1 b).2.1).1.toArray⟩, .slice none 0 0, .bool false] := Row.alloc w4 _ _; have hp4 := Nat.lt_of_lt_of_le hplt (Nat.le_trans hK3.size hK4.size); have hbT : w4.heap.size ∉ rowOf T := (fun hm => by have h1 := row_lt hW.out.own _ hm; have h2 := hK3.size; have h3 := hK4.size; omega); have hne : w4.heap.size ≠ w.heap.size := (by omega); replace hR4 := Lib.hid hR4; replace hW4 := Lib.hid hW4; replace hW4a := Lib.hid hW4a)
                | (go_at_call 79; (with_reducible refine hN3.mono ?_); rintro e' w5 ⟨rfl, hR5, hK5⟩; have hW5 := hW4a.out.rdr hK5 hR5; have hN5 := rnum4 w.heap.size src _ _ _ hW5.R hps; have hB5 := hB4.keep hK5 (fun hm => by have := List.mem_singleton.1 hm; omega); replace hW5 := Lib.hid hW5)
                | (go_at_call 79; (with_reducible refine hN5.mono ?_); rintro e' w6 ⟨rfl, hR6, hK6⟩; have hW6 := hW5.out.rdr hK6 hR6; have hB6 := hB5.keep hK6 (fun hm => by have := List.mem_singleton.1 hm; omega); have hT6 := rtake_any w.heap.size src _ _ (num (tkS 4 (tkS 1 (tkS (num (tkS 1 b).1) (tkS 1 b).2.1).2.1).2.1).1) _ hW6.R hps (by omega); replace hR6 := Lib.hid hR6; replace hW6 := Lib.hid hW6)
                | (go_at_call 80; (with_reducible refine hT6.mono ?_); rintro e' w7 ⟨A7, c7, rfl, _, _, hnl7, hrd7, hsr7, hR7, hK7⟩; have hW7 := hW6.out.rdr hK7 hR7; have hB7 := hB6.keep hK7 (fun hm => by have := List.mem_singleton.1 hm; omega); have g0 : w7.cell? ⟨w4.heap.size, 0, none⟩ = some (.string ⟨(tkS (num (tkS 1 b).1) (tkS 1 b).2.1).1.toArray⟩) := hB7.cell (i := 0) (by simp); have g1 : w7.cell? ⟨w4.heap.size, 1, none⟩ = some (.slice none 0 0) := hB7.cell (i := 1) (by simp); have g2 : w7.cell? ⟨w4.heap.size, 2, none⟩ = some (.bool false) := hB7.cell (i := 2) (by simp); have gf1 := hB7.fro 1; have gf2 := hB7.fro 2; have hW8 := hW7.box (i := 1) (v := .slice A7 (tkS (num (tkS 4 (tkS 1 (tkS (num (tkS 1 b).1) (tkS 1 b).2.1).2.1).2.1).1) (tkS 4 (tkS 1 (tkS (num (tkS 1 b).1) (tkS 1 b).2.1).2.1).2.1).2.1).1.length c7) hss (Ty.of_row hB7) hp4 hbT; have hW9 := hW8.box (i := 2) (v := .bool false) hss (Ty.of_row (hB7.set 1 _)) hp4 hbT; have gg := hW7.R.flag.1; have gff := hW7.R.flag.2; have hW10 := hW9.mark hps)
                | (at_builtin; refine wpList_appfam rfl (.tmp 67) (.tmp 69) 32 45 3 48 rfl writeRow w.heap.size T k c' _ rfl (hW10.ext (ext_alloc _ _)).own ⟨w7.heap.size, 0, none⟩ 1 1 [.string ⟨(tkS (num (tkS 1 b).1) (tkS 1 b).2.1).1.toArray⟩, .slice A7 (tkS (num (tkS 4 (tkS 1 (tkS (num (tkS 1 b).1) (tkS 1 b).2.1).2.1).2.1).1) (tkS 4 (tkS 1 (tkS (num (tkS 1 b).1) (tkS 1 b).2.1).2.1).2.1).2.1).1.length c7, .bool false] rfl rfl (rd_list' _ _ _ (by simp)) (by intro u hu; simp at hu; rcases hu with rfl | rfl | rfl <;> rfl) (by unfold maxLen; omega) (by omega) (Nat.le_of_lt (hW10.ext (ext_alloc _ _)).plt) ?_; intro T8 c8 w8 ho8 hk8 hn8))
              have hps' := hW10.push hss (hW7.vok hss hrd7 hsr7 (fun e => (hnl7 e).resolve_right hsn) _ _ hkz (by omega)) (ext_alloc _ _) hk8 ho8 hn8
              have hfin := rwr_bad hps' (hP.out.worse hlt hbadd.out) rfl
              go_roundw
              case rel => exact ⟨k + 1, c8, T8, _, _, _, hlt, by go_num, rfl, hfin.1, hfin.2⟩
              case measure => simp [intOf]; omega
          · have q0 : (((num (tkS 1 (tkS (num (tkS 1 b).1) (tkS 1 b).2.1).2.1).1 : Nat) : Int) == 0) = false := beq_false_of_ne (by omega)
            by_cases hq1 : num (tkS 1 (tkS (num (tkS 1 b).1) (tkS 1 b).2.1).2.1).1 = 1
            · have q1 : (((num (tkS 1 (tkS (num (tkS 1 b).1) (tkS 1 b).2.1).2.1).1 : Nat) : Int) == 1) = true := by rw [hq1]; rfl
              replace hq := Lib.hid hq
              replace hq1 := Lib.hid hq1
              go_wp2_with (first
                | (go_at_call 79; (with_reducible refine hN1.mono ?_); rintro e' w3 ⟨rfl, hR3, hK3⟩; have hW3 := hW.out.rdr hK3 hR3; have hT3 := rtake_any w.heap.size src _ _ (num (tkS 1 b).1) _ hW3.R hps (by omega); replace hR3 := Lib.hid hR3; replace hW3 := Lib.hid hW3)
                | (go_at_call 80; (with_reducible refine hT3.mono ?_); rintro e' w4 ⟨A4, c4, rfl, _, _, _, hrd4, _, hR4, hK4⟩; have hcv := run_convert_rd (P := Tryz.prog) w4 43 9 5 Tryz.underlying43 Tryz.underlying5 Tryz.underlying9 A4 (tkS (num (tkS 1 b).1) (tkS 1 b).2.1).1.length c4 (tkS (num (tkS 1 b).1) (tkS 1 b).2.1).1 rfl hrd4; have hW4 := hW3.out.rdr hK4 hR4; have hW4a := hW4.ext (ext_alloc w4 (.cells #[.string ⟨(tkS (num (tkS 1 b).1) (tkS 1 b).2.1).1.toArray⟩, .slice none 0 0, .bool false] 45)); have hN3 := rnum1 w.heap.size src _ _ _ hW4a.R hps; have hB4 : Row _ w4.heap.size 45 [.string ⟨(tkS (num (tkS 1 b).1) (tkS 1 b).2.1).1.toArray⟩, .slice none 0 0, .bool false] := Row.alloc w4 _ _; have hp4 := Nat.lt_of_lt_of_le hplt (Nat.le_trans hK3.size hK4.size); have hbT : w4.heap.size ∉ rowOf T := (fun hm => by have h1 := row_lt hW.out.own _ hm; have h2 := hK3.size; have h3 := hK4.size; omega); have hne : w4.heap.size ≠ w.heap.size := (by omega); replace hR4 := Lib.hid hR4; replace hW4 := Lib.hid hW4; replace hW4a := Lib.hid hW4a)
                | (go_at_call 79; (with_reducible refine hN3.mono ?_); rintro e' w5 ⟨rfl, hR5, hK5⟩; have hW5 := hW4a.out.rdr hK5 hR5; have hB5 := hB4.keep hK5 (fun hm => by have := List.mem_singleton.1 hm; omega); have g0 : w5.cell? ⟨w4.heap.size, 0, none⟩ = some (.string ⟨(tkS (num (tkS 1 b).1) (tkS 1 b).2.1).1.toArray⟩) := hB5.cell (i := 0) (by simp); have g1 : w5.cell? ⟨w4.heap.size, 1, none⟩ = some (.slice none 0 0) := hB5.cell (i := 1) (by simp); have g2 : w5.cell? ⟨w4.heap.size, 2, none⟩ = some (.bool false) := hB5.cell (i := 2) (by simp); have gf1 := hB5.fro 1; have gf2 := hB5.fro 2; have hW9 := hW5.box (i := 2) (v := .bool true) hss (Ty.of_row hB5) hp4 hbT; have gg := hW5.R.flag.1; have gff := hW5.R.flag.2; have hW10 := hW9.mark hps)
                | (at_builtin; refine wpList_appfam rfl (.tmp 67) (.tmp 69) 32 45 3 48 rfl writeRow w.heap.size T k c' _ rfl (hW10.ext (ext_alloc _ _)).own ⟨w5.heap.size, 0, none⟩ 1 1 [.string ⟨(tkS (num (tkS 1 b).1) (tkS 1 b).2.1).1.toArray⟩, .slice none 0 0, .bool true] rfl rfl (rd_list' _ _ _ (by simp)) (by intro u hu; simp at hu; rcases hu with rfl | rfl | rfl <;> rfl) (by unfold maxLen; omega) (by omega) (Nat.le_of_lt (hW10.ext (ext_alloc _ _)).plt) ?_; intro T8 c8 w8 ho8 hk8 hn8))
              have hps' := hW10.push hss (rvok_none w src _ _ hkz) (ext_alloc _ _) hk8 ho8 hn8
              have hfin := rwr_bad hps' (hP.out.worse hlt hbadd.out) rfl
              go_roundw
              case rel => exact ⟨k + 1, c8, T8, _, _, _, hlt, by go_num, rfl, hfin.1, hfin.2⟩
              case measure => simp [intOf]; omega
            · have q1 : (((num (tkS 1 (tkS (num (tkS 1 b).1) (tkS 1 b).2.1).2.1).1 : Nat) : Int) == 1) = false := beq_false_of_ne (by omega)
              replace hq := Lib.hid hq
              replace hq1 := Lib.hid hq1
              go_wp2_with (first
                | (go_at_call 79; (with_reducible refine hN1.mono ?_); rintro e' w3 ⟨rfl, hR3, hK3⟩; have hW3 := hW.out.rdr hK3 hR3; have hT3 := rtake_any w.heap.size src _ _ (num (tkS 1 b).1) _ hW3.R hps (by omega); replace hR3 := Lib.hid hR3; replace hW3 := Lib.hid hW3)
                | (go_at_call 80; (with_reducible refine hT3.mono ?_); rintro e' w4 ⟨A4, c4, rfl, _, _, _, hrd4, _, hR4, hK4⟩; have hcv := run_convert_rd (P := Tryz.prog) w4 43 9 5 Tryz.underlying43 Tryz.underlying5 Tryz.underlying9 A4 (tkS (num (tkS 1 b).1) (tkS 1 b).2.1).1.length c4 (tkS (num (tkS 1 b).1) (tkS 1 b).2.1).1 rfl hrd4; have hW4 := hW3.out.rdr hK4 hR4; have hW4a := hW4.ext (ext_alloc w4 (.cells #[.string ⟨(tkS (num (tkS 1 b).1) (tkS 1 b).2.1).1.toArray⟩, .slice none 0 0, .bool false] 45)); have hN3 := rnum1 w.heap.size src _ _ _ hW4a.R hps; have hB4 : Row _ w4.heap.size 45 [.string ⟨(tkS (num (tkS 1 b).1) (tkS 1 b).2.1).1.toArray⟩, .slice none 0 0, .bool false] := Row.alloc w4 _ _; have hp4 := Nat.lt_of_lt_of_le hplt (Nat.le_trans hK3.size hK4.size); have hbT : w4.heap.size ∉ rowOf T := (fun hm => by have h1 := row_lt hW.out.own _ hm; have h2 := hK3.size; have h3 := hK4.size; omega); have hne : w4.heap.size ≠ w.heap.size := (by omega); replace hR4 := Lib.hid hR4; replace hW4 := Lib.hid hW4; replace hW4a := Lib.hid hW4a)
                | (go_at_call 79; (with_reducible refine hN3.mono ?_); rintro e' w5 ⟨rfl, hR5, hK5⟩; have hW5 := hW4a.out.rdr hK5 hR5; have hB5 := hB4.keep hK5 (fun hm => by have := List.mem_singleton.1 hm; omega); have g0 : w5.cell? ⟨w4.heap.size, 0, none⟩ = some (.string ⟨(tkS (num (tkS 1 b).1) (tkS 1 b).2.1).1.toArray⟩) := hB5.cell (i := 0) (by simp); have g1 : w5.cell? ⟨w4.heap.size, 1, none⟩ = some (.slice none 0 0) := hB5.cell (i := 1) (by simp); have g2 : w5.cell? ⟨w4.heap.size, 2, none⟩ = some (.bool false) := hB5.cell (i := 2) (by simp); have gf1 := hB5.fro 1; have gf2 := hB5.fro 2; have hW9 := hW5.box (i := 2) (v := .bool false) hss (Ty.of_row hB5) hp4 hbT; have gg := hW5.R.flag.1; have gff := hW5.R.flag.2; have hW10 := hW9.mark hps)
                | (at_builtin; refine wpList_appfam rfl (.tmp 67) (.tmp 69) 32 45 3 48 rfl writeRow w.heap.size T k c' _ rfl (hW10.ext (ext_alloc _ _)).own ⟨w5.heap.size, 0, none⟩ 1 1 [.string ⟨(tkS (num (tkS 1 b).1) (tkS 1 b).2.1).1.toArray⟩, .slice none 0 0, .bool false] rfl rfl (rd_list' _ _ _ (by simp)) (by intro u hu; simp at hu; rcases hu with rfl | rfl | rfl <;> rfl) (by unfold maxLen; omega) (by omega) (Nat.le_of_lt (hW10.ext (ext_alloc _ _)).plt) ?_; intro T8 c8 w8 ho8 hk8 hn8))
              have hps' := hW10.push hss (rvok_none w src _ _ hkz) (ext_alloc _ _) hk8 ho8 hn8
              have hfin := rwr_bad hps' (hP.out.worse hlt hbadd.out) rfl
              go_roundw
              case rel => exact ⟨k + 1, c8, T8, _, _, _, hlt, by go_num, rfl, hfin.1, hfin.2⟩
              case measure => simp [intOf]; omega
        · have z1 : (((num (tkS 1 b).1 : Nat) : Int) == 0) = false := beq_false_of_ne (by omega)
          have hk2 : keyS b = ((tkS (num (tkS 1 b).1) (tkS 1 b).2.1).1, (tkS (num (tkS 1 b).1) (tkS 1 b).2.1).2.1, (tkS 1 b).2.2 || (tkS (num (tkS 1 b).1) (tkS 1 b).2.1).2.2) := by
            rw [hkS]
            have : (num (tkS 1 b).1 == 0) = false := by simpa using hn1
            rw [this, Bool.or_false]
          replace hn1 := Lib.hid hn1
          by_cases hq : num (tkS 1 (tkS (num (tkS 1 b).1) (tkS 1 b).2.1).2.1).1 = 0
          · have q0 : (((num (tkS 1 (tkS (num (tkS 1 b).1) (tkS 1 b).2.1).2.1).1 : Nat) : Int) == 0) = true := by rw [hq]; rfl
            have q1 : (((num (tkS 1 (tkS (num (tkS 1 b).1) (tkS 1 b).2.1).2.1).1 : Nat) : Int) == 1) = false := by rw [hq]; rfl
            have q2 : decide (((num (tkS 1 (tkS (num (tkS 1 b).1) (tkS 1 b).2.1).2.1).1 : Nat) : Int) > 1) = false := decide_eq_false (by omega)
            have hS0 := wrtS0 (b := b) (by rw [hk2]; exact hq)
            rw [hk2] at hS0
            replace hq := Lib.hid hq
            by_cases hbg : 262144 < num (tkS 4 (tkS 1 (tkS (num (tkS 1 b).1) (tkS 1 b).2.1).2.1).2.1).1
            · have q3 : decide (((num (tkS 4 (tkS 1 (tkS (num (tkS 1 b).1) (tkS 1 b).2.1).2.1).2.1).1 : Nat) : Int) > 262144) = true := decide_eq_true (by omega)
              have hv : (valS (tkS 1 (tkS (num (tkS 1 b).1) (tkS 1 b).2.1).2.1).2.1).2.2 = true := by unfold valS; rw [if_pos hbg]
              have hbadd : (wrtS b).2.2 = true := by rw [hS0]; simp [hv]
              replace hbadd := Lib.hid hbadd
              clear hS0 hv
              go_wp2_with (first
                | (go_at_call 79; (with_reducible refine hN1.mono ?_); rintro e' w3 ⟨rfl, hR3, hK3⟩; have hW3 := hW.out.rdr hK3 hR3; have hT3 := rtake_any w.heap.size src _ _ (num (tkS 1 b).1) _ hW3.R hps (by omega); replace hR3 := Lib.hid hR3; replace hW3 := Lib.hid hW3)
                | (go_at_call 80; (with_reducible refine hT3.mono ?_); rintro e' w4 ⟨A4, c4, rfl, _, _, _, hrd4, _, hR4, hK4⟩; have hcv := run_convert_rd (P := Tryz.prog) w4 43 9 5 Tryz.underlying43 Tryz.underlying5 Tryz.underlying9 A4 (tkS (num (tkS 1 b).1) (tkS 1 b).2.1).1.length c4 (tkS (num (tkS 1 b).1) (tkS 1 b).2.1).1 rfl hrd4; have hW4 := hW3.out.rdr hK4 hR4; have hW4a := hW4.ext (ext_alloc w4 (.cells #[.string ⟨(tkS (num (tkS 1 b).1) (tkS 1 b).2.1).1.toArray⟩, .slice none 0 0, .bool false] 45)); have hN3 := rnum1 w.heap.size src _ _ _ hW4a.R hps; have hB4 : Row _ w4.heap.size 45 [.string ⟨(tkS (num (tkS 1 b).1) (tkS 1 b).2.1).1.toArray⟩, .slice none 0 0, .bool false] := Row.alloc w4 _ _; have hp4 := Nat.lt_of_lt_of_le hplt (Nat.le_trans hK3.size hK4.size); have hbT : w4.heap.size ∉ rowOf T := (fun hm => by have h1 := row_lt hW.out.own _ hm; have h2 := hK3.size; have h3 := hK4.size; omega); have hne : w4.heap.size ≠ w.heap.size := (by omega); replace hR4 := Lib.hid hR4; replace hW4 := Lib.hid hW4; replace hW4a := Lib.hid hW4a)
                | (go_at_call 79; (with_reducible refine hN3.mono ?_); rintro e' w5 ⟨rfl, hR5, hK5⟩; have hW5 := hW4a.out.rdr hK5 hR5; have hN5 := rnum4 w.heap.size src _ _ _ hW5.R hps; have hB5 := hB4.keep hK5 (fun hm => by have := List.mem_singleton.1 hm; omega); replace hW5 := Lib.hid hW5)
                | (go_at_call 79; (with_reducible refine hN5.mono ?_); rintro e' w6 ⟨rfl, hR6, hK6⟩; have hW6 := hW5.out.rdr hK6 hR6; have gg := hW6.R.flag.1; have gff := hW6.R.flag.2; have hB6 := hB5.keep hK6 (fun hm => by have := List.mem_singleton.1 hm; omega); have hW6m := hW6.mark hps; have hT6 := rtake_any w.heap.size src _ _ (num (tkS 4 (tkS 1 (tkS (num (tkS 1 b).1) (tkS 1 b).2.1).2.1).2.1).1) _ hW6m.R hps (by omega); have hB6m := hB6.keep (hW6.R.mark hps).2 (fun hm => by have := List.mem_singleton.1 hm; omega); replace hW6m := Lib.hid hW6m; replace hB6 := Lib.hid hB6; replace hR6 := Lib.hid hR6; replace hW6 := Lib.hid hW6)
                | (go_at_call 80; (with_reducible refine hT6.mono ?_); rintro e' w7 ⟨A7, c7, rfl, _, _, hnl7, hrd7, hsr7, hR7, hK7⟩; have hW7 := hW6m.out.rdr hK7 hR7; have hB7 := hB6m.keep hK7 (fun hm => by have := List.mem_singleton.1 hm; omega); have g0 : w7.cell? ⟨w4.heap.size, 0, none⟩ = some (.string ⟨(tkS (num (tkS 1 b).1) (tkS 1 b).2.1).1.toArray⟩) := hB7.cell (i := 0) (by simp); have g1 : w7.cell? ⟨w4.heap.size, 1, none⟩ = some (.slice none 0 0) := hB7.cell (i := 1) (by simp); have g2 : w7.cell? ⟨w4.heap.size, 2, none⟩ = some (.bool false) := hB7.cell (i := 2) (by simp); have gf1 := hB7.fro 1; have gf2 := hB7.fro 2; have hW8 := hW7.box (i := 1) (v := .slice A7 (tkS (num (tkS 4 (tkS 1 (tkS (num (tkS 1 b).1) (tkS 1 b).2.1).2.1).2.1).1) (tkS 4 (tkS 1 (tkS (num (tkS 1 b).1) (tkS 1 b).2.1).2.1).2.1).2.1).1.length c7) hss (Ty.of_row hB7) hp4 hbT; have hW9 := hW8.box (i := 2) (v := .bool false) hss (Ty.of_row (hB7.set 1 _)) hp4 hbT)
                | (at_builtin; refine wpList_appfam rfl (.tmp 67) (.tmp 69) 32 45 3 48 rfl writeRow w.heap.size T k c' _ rfl (hW9.ext (ext_alloc _ _)).own ⟨w7.heap.size, 0, none⟩ 1 1 [.string ⟨(tkS (num (tkS 1 b).1) (tkS 1 b).2.1).1.toArray⟩, .slice A7 (tkS (num (tkS 4 (tkS 1 (tkS (num (tkS 1 b).1) (tkS 1 b).2.1).2.1).2.1).1) (tkS 4 (tkS 1 (tkS (num (tkS 1 b).1) (tkS 1 b).2.1).2.1).2.1).2.1).1.length c7, .bool false] rfl rfl (rd_list' _ _ _ (by simp)) (by intro u hu; simp at hu; rcases hu with rfl | rfl | rfl <;> rfl) (by unfold maxLen; omega) (by omega) (Nat.le_of_lt (hW9.ext (ext_alloc _ _)).plt) ?_; intro T8 c8 w8 ho8 hk8 hn8))
              have hps' := hW9.push hss (hW7.vok hss hrd7 hsr7 (fun e => (hnl7 e).resolve_right hsn) _ _ hkz (by omega)) (ext_alloc _ _) hk8 ho8 hn8
              have hfin := rwr_bad hps' (hP.out.worse hlt hbadd.out) rfl
              go_roundw
              case rel => exact ⟨k + 1, c8, T8, _, _, _, hlt, by go_num, rfl, hfin.1, hfin.2⟩
              case measure => simp [intOf]; omega
            · have q3 : decide (((num (tkS 4 (tkS 1 (tkS (num (tkS 1 b).1) (tkS 1 b).2.1).2.1).2.1).1 : Nat) : Int) > 262144) = false := decide_eq_false (by omega)
              have hv : valS (tkS 1 (tkS (num (tkS 1 b).1) (tkS 1 b).2.1).2.1).2.1 = ((tkS (num (tkS 4 (tkS 1 (tkS (num (tkS 1 b).1) (tkS 1 b).2.1).2.1).2.1).1) (tkS 4 (tkS 1 (tkS (num (tkS 1 b).1) (tkS 1 b).2.1).2.1).2.1).2.1).1, (tkS (num (tkS 4 (tkS 1 (tkS (num (tkS 1 b).1) (tkS 1 b).2.1).2.1).2.1).1) (tkS 4 (tkS 1 (tkS (num (tkS 1 b).1) (tkS 1 b).2.1).2.1).2.1).2.1).2.1, (tkS 4 (tkS 1 (tkS (num (tkS 1 b).1) (tkS 1 b).2.1).2.1).2.1).2.2 || (tkS (num (tkS 4 (tkS 1 (tkS (num (tkS 1 b).1) (tkS 1 b).2.1).2.1).2.1).1) (tkS 4 (tkS 1 (tkS (num (tkS 1 b).1) (tkS 1 b).2.1).2.1).2.1).2.1).2.2) := by unfold valS; rw [if_neg hbg]
              have hgood : wrtS b = (⟨(tkS (num (tkS 1 b).1) (tkS 1 b).2.1).1, (tkS (num (tkS 4 (tkS 1 (tkS (num (tkS 1 b).1) (tkS 1 b).2.1).2.1).2.1).1) (tkS 4 (tkS 1 (tkS (num (tkS 1 b).1) (tkS 1 b).2.1).2.1).2.1).2.1).1, false⟩, (tkS (num (tkS 4 (tkS 1 (tkS (num (tkS 1 b).1) (tkS 1 b).2.1).2.1).2.1).1) (tkS 4 (tkS 1 (tkS (num (tkS 1 b).1) (tkS 1 b).2.1).2.1).2.1).2.1).2.1, (((((false || (tkS 1 b).2.2) || (tkS (num (tkS 1 b).1) (tkS 1 b).2.1).2.2) || (tkS 1 (tkS (num (tkS 1 b).1) (tkS 1 b).2.1).2.1).2.2) || (tkS 4 (tkS 1 (tkS (num (tkS 1 b).1) (tkS 1 b).2.1).2.1).2.1).2.2) || (tkS (num (tkS 4 (tkS 1 (tkS (num (tkS 1 b).1) (tkS 1 b).2.1).2.1).2.1).1) (tkS 4 (tkS 1 (tkS (num (tkS 1 b).1) (tkS 1 b).2.1).2.1).2.1).2.1).2.2)) := by
                rw [hS0, hv]
                simp [Bool.or_assoc]
              replace hgood := Lib.hid hgood
              clear hS0 hv
              go_wp2_with (first
                | (go_at_call 79; (with_reducible refine hN1.mono ?_); rintro e' w3 ⟨rfl, hR3, hK3⟩; have hW3 := hW.out.rdr hK3 hR3; have hT3 := rtake_any w.heap.size src _ _ (num (tkS 1 b).1) _ hW3.R hps (by omega); replace hR3 := Lib.hid hR3; replace hW3 := Lib.hid hW3)
                | (go_at_call 80; (with_reducible refine hT3.mono ?_); rintro e' w4 ⟨A4, c4, rfl, _, _, _, hrd4, _, hR4, hK4⟩; have hcv := run_convert_rd (P := Tryz.prog) w4 43 9 5 Tryz.underlying43 Tryz.underlying5 Tryz.underlying9 A4 (tkS (num (tkS 1 b).1) (tkS 1 b).2.1).1.length c4 (tkS (num (tkS 1 b).1) (tkS 1 b).2.1).1 rfl hrd4; have hW4 := hW3.out.rdr hK4 hR4; have hW4a := hW4.ext (ext_alloc w4 (.cells #[.string ⟨(tkS (num (tkS 1 b).1) (tkS 1 b).2.1).1.toArray⟩, .slice none 0 0, .bool false] 45)); have hN3 := rnum1 w.heap.size src _ _ _ hW4a.R hps; have hB4 : Row _ w4.heap.size 45 [.string ⟨(tkS (num (tkS 1 b).1) (tkS 1 b).2.1).1.toArray⟩, .slice none 0 0, .bool false] := Row.alloc w4 _ _; have hp4 := Nat.lt_of_lt_of_le hplt (Nat.le_trans hK3.size hK4.size); have hbT : w4.heap.size ∉ rowOf T := (fun hm => by have h1 := row_lt hW.out.own _ hm; have h2 := hK3.size; have h3 := hK4.size; omega); have hne : w4.heap.size ≠ w.heap.size := (by omega); replace hR4 := Lib.hid hR4; replace hW4 := Lib.hid hW4; replace hW4a := Lib.hid hW4a)
                | (go_at_call 79; (with_reducible refine hN3.mono ?_); rintro e' w5 ⟨rfl, hR5, hK5⟩; have hW5 := hW4a.out.rdr hK5 hR5; have hN5 := rnum4 w.heap.size src _ _ _ hW5.R hps; have hB5 := hB4.keep hK5 (fun hm => by have := List.mem_singleton.1 hm; omega); replace hW5 := Lib.hid hW5)
                | (go_at_call 79; (with_reducible refine hN5.mono ?_); rintro e' w6 ⟨rfl, hR6, hK6⟩; have hW6 := hW5.out.rdr hK6 hR6; have hB6 := hB5.keep hK6 (fun hm => by have := List.mem_singleton.1 hm; omega); have hT6 := rtake_any w.heap.size src _ _ (num (tkS 4 (tkS 1 (tkS (num (tkS 1 b).1) (tkS 1 b).2.1).2.1).2.1).1) _ hW6.R hps (by omega); replace hR6 := Lib.hid hR6; replace hW6 := Lib.hid hW6)
                | (go_at_call 80; (with_reducible refine hT6.mono ?_); rintro e' w7 ⟨A7, c7, rfl, _, _, hnl7, hrd7, hsr7, hR7, hK7⟩; have hW7 := hW6.out.rdr hK7 hR7; have hB7 := hB6.keep hK7 (fun hm => by have := List.mem_singleton.1 hm; omega); have g0 : w7.cell? ⟨w4.heap.size, 0, none⟩ = some (.string ⟨(tkS (num (tkS 1 b).1) (tkS 1 b).2.1).1.toArray⟩) := hB7.cell (i := 0) (by simp); have g1 : w7.cell? ⟨w4.heap.size, 1, none⟩ = some (.slice none 0 0) := hB7.cell (i := 1) (by simp); have g2 : w7.cell? ⟨w4.heap.size, 2, none⟩ = some (.bool false) := hB7.cell (i := 2) (by simp); have gf1 := hB7.fro 1; have gf2 := hB7.fro 2; have hW8 := hW7.box (i := 1) (v := .slice A7 (tkS (num (tkS 4 (tkS 1 (tkS (num (tkS 1 b).1) (tkS 1 b).2.1).2.1).2.1).1) (tkS 4 (tkS 1 (tkS (num (tkS 1 b).1) (tkS 1 b).2.1).2.1).2.1).2.1).1.length c7) hss (Ty.of_row hB7) hp4 hbT; have hW9 := hW8.box (i := 2) (v := .bool false) hss (Ty.of_row (hB7.set 1 _)) hp4 hbT)
                | (at_builtin; refine wpList_appfam rfl (.tmp 67) (.tmp 69) 32 45 3 48 rfl writeRow w.heap.size T k c' _ rfl (hW9.ext (ext_alloc _ _)).own ⟨w7.heap.size, 0, none⟩ 1 1 [.string ⟨(tkS (num (tkS 1 b).1) (tkS 1 b).2.1).1.toArray⟩, .slice A7 (tkS (num (tkS 4 (tkS 1 (tkS (num (tkS 1 b).1) (tkS 1 b).2.1).2.1).2.1).1) (tkS 4 (tkS 1 (tkS (num (tkS 1 b).1) (tkS 1 b).2.1).2.1).2.1).2.1).1.length c7, .bool false] rfl rfl (rd_list' _ _ _ (by simp)) (by intro u hu; simp at hu; rcases hu with rfl | rfl | rfl <;> rfl) (by unfold maxLen; omega) (by omega) (Nat.le_of_lt (hW9.ext (ext_alloc _ _)).plt) ?_; intro T8 c8 w8 ho8 hk8 hn8))
              have hps' := hW9.push hss (hW7.vok hss hrd7 hsr7 (fun e => (hnl7 e).resolve_right hsn) _ _ hkz (by omega)) (ext_alloc _ _) hk8 ho8 hn8
              have hfin := rwr_next hps' (by rw [hgood.out]; simp [WV.pw]) hstep.out
              go_roundw
              case rel => exact ⟨k + 1, c8, T8, _, _, _, hlt, by go_num, rfl, hfin.1, hfin.2⟩
              case measure => simp [intOf]; omega
          · have q0 : (((num (tkS 1 (tkS (num (tkS 1 b).1) (tkS 1 b).2.1).2.1).1 : Nat) : Int) == 0) = false := beq_false_of_ne (by omega)
            by_cases hq1 : num (tkS 1 (tkS (num (tkS 1 b).1) (tkS 1 b).2.1).2.1).1 = 1
            · have q1 : (((num (tkS 1 (tkS (num (tkS 1 b).1) (tkS 1 b).2.1).2.1).1 : Nat) : Int) == 1) = true := by rw [hq1]; rfl
              have q2 : decide (((num (tkS 1 (tkS (num (tkS 1 b).1) (tkS 1 b).2.1).2.1).1 : Nat) : Int) > 1) = false := decide_eq_false (by omega)
              have hgood : wrtS b = (⟨(tkS (num (tkS 1 b).1) (tkS 1 b).2.1).1, [], true⟩, (tkS 1 (tkS (num (tkS 1 b).1) (tkS 1 b).2.1).2.1).2.1, (((false || (tkS 1 b).2.2) || (tkS (num (tkS 1 b).1) (tkS 1 b).2.1).2.2) || (tkS 1 (tkS (num (tkS 1 b).1) (tkS 1 b).2.1).2.1).2.2)) := by
                rw [wrtS1 (b := b) (by rw [hk2]; exact hq1), hk2]
                simp [Bool.or_assoc]
              replace hgood := Lib.hid hgood
              replace hq := Lib.hid hq
              replace hq1 := Lib.hid hq1
              go_wp2_with (first
                | (go_at_call 79; (with_reducible refine hN1.mono ?_); rintro e' w3 ⟨rfl, hR3, hK3⟩; have hW3 := hW.out.rdr hK3 hR3; have hT3 := rtake_any w.heap.size src _ _ (num (tkS 1 b).1) _ hW3.R hps (by omega); replace hR3 := Lib.hid hR3; replace hW3 := Lib.hid hW3)
                | (go_at_call 80; (with_reducible refine hT3.mono ?_); rintro e' w4 ⟨A4, c4, rfl, _, _, _, hrd4, _, hR4, hK4⟩; have hcv := run_convert_rd (P := Tryz.prog) w4 43 9 5 Tryz.underlying43 Tryz.underlying5 Tryz.underlying9 A4 (tkS (num (tkS 1 b).1) (tkS 1 b).2.1).1.length c4 (tkS (num (tkS 1 b).1) (tkS 1 b).2.1).1 rfl hrd4; have hW4 := hW3.out.rdr hK4 hR4; have hW4a := hW4.ext (ext_alloc w4 (.cells #[.string ⟨(tkS (num (tkS 1 b).1) (tkS 1 b).2.1).1.toArray⟩, .slice none 0 0, .bool false] 45)); have hN3 := rnum1 w.heap.size src _ _ _ hW4a.R hps; have hB4 : Row _ w4.heap.size 45 [.string ⟨(tkS (num (tkS 1 b).1) (tkS 1 b).2.1).1.toArray⟩, .slice none 0 0, .bool false] := Row.alloc w4 _ _; have hp4 := Nat.lt_of_lt_of_le hplt (Nat.le_trans hK3.size hK4.size); have hbT : w4.heap.size ∉ rowOf T := (fun hm => by have h1 := row_lt hW.out.own _ hm; have h2 := hK3.size; have h3 := hK4.size; omega); have hne : w4.heap.size ≠ w.heap.size := (by omega); replace hR4 := Lib.hid hR4; replace hW4 := Lib.hid hW4; replace hW4a := Lib.hid hW4a)
                | (go_at_call 79; (with_reducible refine hN3.mono ?_); rintro e' w5 ⟨rfl, hR5, hK5⟩; have hW5 := hW4a.out.rdr hK5 hR5; have hB5 := hB4.keep hK5 (fun hm => by have := List.mem_singleton.1 hm; omega); have g0 : w5.cell? ⟨w4.heap.size, 0, none⟩ = some (.string ⟨(tkS (num (tkS 1 b).1) (tkS 1 b).2.1).1.toArray⟩) := hB5.cell (i := 0) (by simp); have g1 : w5.cell? ⟨w4.heap.size, 1, none⟩ = some (.slice none 0 0) := hB5.cell (i := 1) (by simp); have g2 : w5.cell? ⟨w4.heap.size, 2, none⟩ = some (.bool false) := hB5.cell (i := 2) (by simp); have gf1 := hB5.fro 1; have gf2 := hB5.fro 2; have hW9 := hW5.box (i := 2) (v := .bool true) hss (Ty.of_row hB5) hp4 hbT)
                | (at_builtin; refine wpList_appfam rfl (.tmp 67) (.tmp 69) 32 45 3 48 rfl writeRow w.heap.size T k c' _ rfl (hW9.ext (ext_alloc _ _)).own ⟨w5.heap.size, 0, none⟩ 1 1 [.string ⟨(tkS (num (tkS 1 b).1) (tkS 1 b).2.1).1.toArray⟩, .slice none 0 0, .bool true] rfl rfl (rd_list' _ _ _ (by simp)) (by intro u hu; simp at hu; rcases hu with rfl | rfl | rfl <;> rfl) (by unfold maxLen; omega) (by omega) (Nat.le_of_lt (hW9.ext (ext_alloc _ _)).plt) ?_; intro T8 c8 w8 ho8 hk8 hn8))
              have hps' := hW9.push hss (rvok_none w src _ _ hkz) (ext_alloc _ _) hk8 ho8 hn8
              have hfin := rwr_next hps' (by rw [hgood.out]; simp [WV.pw]) hstep.out
              go_roundw
              case rel => exact ⟨k + 1, c8, T8, _, _, _, hlt, by go_num, rfl, hfin.1, hfin.2⟩
              case measure => simp [intOf]; omega
            · have q1 : (((num (tkS 1 (tkS (num (tkS 1 b).1) (tkS 1 b).2.1).2.1).1 : Nat) : Int) == 1) = false := beq_false_of_ne (by omega)
              have q2 : decide (((num (tkS 1 (tkS (num (tkS 1 b).1) (tkS 1 b).2.1).2.1).1 : Nat) : Int) > 1) = true := decide_eq_true (by omega)
              have hbadd : (wrtS b).2.2 = true := by rw [wrtS2 (b := b) (by rw [hk2]; exact hq) (by rw [hk2]; exact hq1)]
              replace hbadd := Lib.hid hbadd
              replace hq := Lib.hid hq
              replace hq1 := Lib.hid hq1
              go_wp2_with (first
                | (go_at_call 79; (with_reducible refine hN1.mono ?_); rintro e' w3 ⟨rfl, hR3, hK3⟩; have hW3 := hW.out.rdr hK3 hR3; have hT3 := rtake_any w.heap.size src _ _ (num (tkS 1 b).1) _ hW3.R hps (by omega); replace hR3 := Lib.hid hR3; replace hW3 := Lib.hid hW3)
                | (go_at_call 80; (with_reducible refine hT3.mono ?_); rintro e' w4 ⟨A4, c4, rfl, _, _, _, hrd4, _, hR4, hK4⟩; have hcv := run_convert_rd (P := Tryz.prog) w4 43 9 5 Tryz.underlying43 Tryz.underlying5 Tryz.underlying9 A4 (tkS (num (tkS 1 b).1) (tkS 1 b).2.1).1.length c4 (tkS (num (tkS 1 b).1) (tkS 1 b).2.1).1 rfl hrd4; have hW4 := hW3.out.rdr hK4 hR4; have hW4a := hW4.ext (ext_alloc w4 (.cells #[.string ⟨(tkS (num (tkS 1 b).1) (tkS 1 b).2.1).1.toArray⟩, .slice none 0 0, .bool false] 45)); have hN3 := rnum1 w.heap.size src _ _ _ hW4a.R hps; have hB4 : Row _ w4.heap.size 45 [.string ⟨(tkS (num (tkS 1 b).1) (tkS 1 b).2.1).1.toArray⟩, .slice none 0 0, .bool false] := Row.alloc w4 _ _; have hp4 := Nat.lt_of_lt_of_le hplt (Nat.le_trans hK3.size hK4.size); have hbT : w4.heap.size ∉ rowOf T := (fun hm => by have h1 := row_lt hW.out.own _ hm; have h2 := hK3.size; have h3 := hK4.size; omega); have hne : w4.heap.size ≠ w.heap.size := (by omega); replace hR4 := Lib.hid hR4; replace hW4 := Lib.hid hW4; replace hW4a := Lib.hid hW4a)
                | (go_at_call 79; (with_reducible refine hN3.mono ?_); rintro e' w5 ⟨rfl, hR5, hK5⟩; have hW5 := hW4a.out.rdr hK5 hR5; have hB5 := hB4.keep hK5 (fun hm => by have := List.mem_singleton.1 hm; omega); have g0 : w5.cell? ⟨w4.heap.size, 0, none⟩ = some (.string ⟨(tkS (num (tkS 1 b).1) (tkS 1 b).2.1).1.toArray⟩) := hB5.cell (i := 0) (by simp); have g1 : w5.cell? ⟨w4.heap.size, 1, none⟩ = some (.slice none 0 0) := hB5.cell (i := 1) (by simp); have g2 : w5.cell? ⟨w4.heap.size, 2, none⟩ = some (.bool false) := hB5.cell (i := 2) (by simp); have gf1 := hB5.fro 1; have gf2 := hB5.fro 2; have hW9 := hW5.box (i := 2) (v := .bool false) hss (Ty.of_row hB5) hp4 hbT; have gg := hW5.R.flag.1; have gff := hW5.R.flag.2; have hW10 := hW9.mark hps)
                | (at_builtin; refine wpList_appfam rfl (.tmp 67) (.tmp 69) 32 45 3 48 rfl writeRow w.heap.size T k c' _ rfl (hW10.ext (ext_alloc _ _)).own ⟨w5.heap.size, 0, none⟩ 1 1 [.string ⟨(tkS (num (tkS 1 b).1) (tkS 1 b).2.1).1.toArray⟩, .slice none 0 0, .bool false] rfl rfl (rd_list' _ _ _ (by simp)) (by intro u hu; simp at hu; rcases hu with rfl | rfl | rfl <;> rfl) (by unfold maxLen; omega) (by omega) (Nat.le_of_lt (hW10.ext (ext_alloc _ _)).plt) ?_; intro T8 c8 w8 ho8 hk8 hn8))
              have hps' := hW10.push hss (rvok_none w src _ _ hkz) (ext_alloc _ _) hk8 ho8 hn8
              have hfin := rwr_bad hps' (hP.out.worse hlt hbadd.out) rfl
              go_roundw
              case rel => exact ⟨k + 1, c8, T8, _, _, _, hlt, by go_num, rfl, hfin.1, hfin.2⟩
              case measure => simp [intOf]; omega
      · rw [hbad] at c1
        have hW' := Lib.hid hW.out.E
        go_wp2
        go_ret3
        exact hgb.out _ _ b bad wr k hP.out (by revert hbad; cases bd0 <;> cases bad <;> simp) hW'.out
    · obtain rfl : k = N := by omega
      rcases hbad : bd0 || bad with _ | _
      · rw [hbad] at c1
        obtain ⟨A0, c0, hrow, _⟩ := hW.out.R.row
        have e0 : wr.cell? ⟨w.heap.size, 0, none⟩ = some (.slice A0 b.length c0) := hrow.cell (i := 0) (by simp)
        obtain ⟨hbd0, hbad'⟩ : bd0 = false ∧ bad = false := by simpa using hbad
        obtain ⟨w1, w2, w3⟩ := hW.out.ws
        have hgg := hgo.out T c' L b bad wr k hP.out hbad' rfl hbd0 hW.out.E w2 w3 hW.out.V
        rw [w1] at hgg
        have e1 : decide (b = [] ∧ 1 ≤ k ∧ k ≤ 4096) = (((b.length : Int) == 0) && (decide ((k : Int) ≥ 1) && decide ((k : Int) ≤ 4096))) := by
          rcases b with _ | ⟨x, y⟩
          · simp
            by_cases h1 : 1 ≤ k <;> by_cases h2 : k ≤ 4096 <;> simp [h1, h2] <;> omega
          · simp
            omega
        rw [e1] at hgg
        replace hgg := Lib.hid hgg
        clear e1 w2 w3 hrow
        rcases hq0 : ((b.length : Int) == 0) with _ | _ <;> rcases hq1 : decide ((k : Int) ≥ 1) with _ | _ <;> rcases hq2 : decide ((k : Int) ≤ 4096) with _ | _
        all_goals
          rw [hq0, hq1, hq2] at hgg
          go_wp2
          go_ret3
          exact hgg.out
      · rw [hbad] at c1
        go_wp2
        go_ret3
        exact hgb.out _ _ b bad wr k hP.out (by revert hbad; cases bd0 <;> cases bad <;> simp) hW.out.E
end Go.Proofs.YtjnbbfhoegeppaaGreatDoor
