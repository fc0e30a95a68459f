/-
  Walks of the answer's reader: the record of all that was kept.
-/
import Derived.Test.YtjnbbfhoegeppaaGreatDoorMKwE
set_option linter.unusedSimpArgs false
set_option linter.unusedVariables false
namespace Go.Cv.Kv
open Go Go.Cv.Dk
/-- Where the answer's loop over pairs stands. -/
def RPs (N : Nat) (b0 : List UInt8) (k : Nat) (L : List PP) (b last : List UInt8) (bd : Bool) : Prop :=
  if bd then prsD N [] b0 = none else PProg N b0 k L b ∧ last = (L.getLast?.map PP.k).getD []
theorem RPs.worse {N k : Nat} {b0 b last b' l' : List UInt8} {L L' : List PP} (h : RPs N b0 k L b last false) (hk : k < N) (h1 : ¬ ((prS b).2.2.2 = false ∧ bytesBefore last (prS b).1 = true)) (k' : Nat) : RPs N b0 k' L' b' l' true := by
  obtain ⟨h2, h3⟩ : PProg N b0 k L b ∧ last = (L.getLast?.map PP.k).getD [] := by simpa [RPs] using h
  show (if (true : Bool) = true then _ else _)
  rw [if_pos rfl]
  rw [h3] at h1
  exact h2.bad hk h1
theorem RPs.next {N k : Nat} {b0 b last : List UInt8} {L : List PP} {fl : Bool} (h : RPs N b0 k L b last false) (hk : k < N) (h1 : (prS b).2.2.2 = fl) (h2 : bytesBefore last (prS b).1 = true) : RPs N b0 (k + 1) (L ++ [⟨(prS b).1, (prS b).2.1⟩]) (prS b).2.2.1 (prS b).1 fl := by
  rcases fl with _ | _
  · obtain ⟨h3, h4⟩ : PProg N b0 k L b ∧ last = (L.getLast?.map PP.k).getD [] := by simpa [RPs] using h
    rw [h4] at h2
    show (if (false : Bool) = true then _ else _)
    rw [if_neg (by simp)]
    exact ⟨h3.step hk h1 h2, by simp⟩
  · exact h.worse hk (fun hh => by rw [h1] at hh; cases hh.1) _
theorem prsD_ris : ∀ {n : Nat} {last b : List UInt8} {z : List PP × List UInt8}, prsD n last b = some z → (∀ p ∈ z.1, bytesBefore last p.k = true) ∧ Ris PP.k z.1
  | 0, last, b, z, h => by
    simp only [prsD, Option.some.injEq] at h
    rw [← h]
    exact ⟨by simp, List.Pairwise.nil⟩
  | n + 1, last, b, z, h => by
    simp only [prsD, Option.bind_eq_some_iff, Option.map_eq_some_iff] at h
    obtain ⟨x, hx, y, hy, rfl⟩ := h
    obtain ⟨h1, h2⟩ := prsD_ris hy
    have h3 : bytesBefore last x.1.k = true := by
      unfold prD at hx
      simp only [Option.bind_eq_some_iff] at hx
      obtain ⟨k, _, v, _, hx⟩ := hx
      split at hx
      · injection hx with hx
        rw [← hx]; assumption
      · cases hx
    refine ⟨fun p hp => ?_, List.pairwise_cons.2 ⟨fun p hp => h1 p hp, h2⟩⟩
    rcases List.mem_cons.1 hp with rfl | hp
    · exact h3
    · exact bb_trans h3 (h1 p hp)
end Go.Cv.Kv
namespace Go.Proofs.YtjnbbfhoegeppaaGreatDoor
open Go.RowKit Go.Cv Go.Cv.Dk Go.Cv.Wal Go.Cv.Kv
/-- A pair whose value lies among the bytes that are read. -/
def RPok (w : World) (src : List Nat) (x : PV) : Prop := Rd w x.A (x.v.map bv) ∧ (x.v = [] ∨ ∀ y ∈ rowOf x.A, y ∈ src)
structure RKst (w wr : World) (src : List Nat) (rs : Nat) (n : Nat) (T : Option Addr) (k c' : Nat) (L : List PV) (b : List UInt8) (bd : Bool) : Prop where
  R : RrAt wr w.heap.size src b bd
  row : Row wr rs 31 [.slice T k c', .int .i64 (n : Nat)]
  own : wr.ownsRow w.heap.size 87 2 (.slice T k c') k (L.flatMap PV.cells)
  pT : w.heap.size ∉ rowOf T
  sT : rs ∉ rowOf T
  ne : w.heap.size < rs
  V : ∀ x ∈ L, RPok w src x
  E : Ext w wr
section
variable {w wr wr' : World} {src : List Nat} {rs n : Nat} {T : Option Addr} {k c' : Nat} {L : List PV} {b b' : List UInt8} {bd bd' : Bool}
theorem RKst.rdr (h : RKst w wr src rs n T k c' L b bd) (hk : Keep [w.heap.size] wr wr') (hR : RrAt wr' w.heap.size src b' bd') : RKst w wr' src rs n T k c' L b' bd' :=
  ⟨hR, h.row.keep hk (fun hm => by have := List.mem_singleton.1 hm; have := h.ne; omega), own_keep h.own hk fun g hg hm => (by
    rw [List.mem_singleton.1 hm] at hg
    exact h.pT (own_rowOf hg)), h.pT, h.sT, h.ne, h.V, ext_keep h.E hk fun x hx => by rw [List.mem_singleton.1 hx]; exact Nat.le_refl _⟩
theorem RKst.ext (h : RKst w wr src rs n T k c' L b bd) (hx : Ext wr wr') : RKst w wr' src rs n T k c' L b bd :=
  ⟨h.R.ext hx, h.row.ext hx, own_ext h.own hx, h.pT, h.sT, h.ne, h.V, h.E.trans hx⟩
theorem RKst.mark (h : RKst w wr src rs n T k c' L b bd) (hp : w.heap.size ∉ src) : RKst w (wr.setCell ⟨w.heap.size, 1, none⟩ (.bool true)) src rs n T k c' L b true := h.rdr (h.R.mark hp).2 (h.R.mark hp).1
theorem RKst.plt (h : RKst w wr src rs n T k c' L b bd) : w.heap.size < wr.heap.size := by
  obtain ⟨A, c, h1, _⟩ := h.R.row
  exact h1.lt
theorem RKst.c0 (h : RKst w wr src rs n T k c' L b bd) : wr.cell? ⟨rs, 0, none⟩ = some (.slice T k c') := h.row.cell (i := 0) (by simp)
theorem RKst.vok {A : Option Addr} {v : List UInt8} {c : Nat} {ky : ByteArray} (h : RKst w wr src rs n T k c' L b bd) (hss : ∀ x ∈ src, x < w.heap.size) (hr : Rd wr A (v.map bv)) (hs : v = [] ∨ ∀ y ∈ rowOf A, y ∈ src) : RPok w src ⟨ky, A, c, v⟩ :=
  ⟨rd_back h.E hr (hs.imp (fun e => by rw [e]; rfl) fun hs y hy => hss y (hs y hy)), hs⟩
theorem RKst.push {w7 w8 : World} {T8 : Option Addr} {c8 : Nat} {x : PV} (h : RKst w wr src rs n T k c' L b bd) (hss : ∀ x ∈ src, x < w.heap.size) (hx : RPok w src x) (h67 : Ext wr w7) (hk : Keep (rowOf T) w7 w8)
    (ho : w8.ownsRow w.heap.size 87 2 (.slice T8 (k + 1) c8) (k + 1) (L.flatMap PV.cells ++ x.cells)) (hn : ∀ y ∈ rowOf T8, y ∈ rowOf T ∨ w7.heap.size ≤ y) :
    w8.cell? ⟨rs, 0, none⟩ = some (.slice T k c') ∧ w8.frozen? ⟨rs, 0, none⟩ = false ∧ RKst w (w8.setCell ⟨rs, 0, none⟩ (.slice T8 (k + 1) c8)) src rs n T8 (k + 1) c8 (L ++ [x]) b bd := by
  have h7 := h.ext h67
  have hr8 := h7.row.keep hk h.sT
  have hk2 := Keep.setCell w8 ⟨rs, 0, none⟩ (.slice T8 (k + 1) c8)
  have hR8 : RrAt w8 w.heap.size src b bd := h7.R.keep hk h.pT fun y hy hm => by
    have h1 := hss y hy
    have h2 := base_le h.own y hm
    omega
  have hne := h.ne
  have hsT8 : rs ∉ rowOf T8 := fun hm => by
    rcases hn _ hm with h1 | h1
    · exact h.sT h1
    · have := h7.row.lt; omega
  refine ⟨hr8.cell (i := 0) (by simp), hr8.fro 0, ⟨hR8.keep hk2 (fun hm => by have := List.mem_singleton.1 hm; simp at this; omega) fun y hy hm => (by have := List.mem_singleton.1 hm; simp at this; have := hss y hy; omega), hr8.set 0 _, ?_, fun hm => ?_, hsT8, h.ne, fun z hz => ?_, ?_⟩⟩
  · rw [List.flatMap_append]
    exact own_keep (by simpa using ho) hk2 fun g hg hm => by
      rw [List.mem_singleton.1 hm] at hg
      exact hsT8 (own_rowOf hg)
  · rcases hn _ hm with h1 | h1
    · exact h.pT h1
    · have := h7.plt; omega
  · rcases List.mem_append.1 hz with hz | hz
    · exact h.V z hz
    · rw [List.mem_singleton.1 hz]; exact hx
  · exact ext_keep (ext_keep h7.E hk (base_le h7.own)) hk2 fun y hy => by have := List.mem_singleton.1 hy; simp at this; omega
theorem RKst.ls (h : RKst w wr src rs n T k c' L b bd) : L.length = k := by
  have := h.own.1
  rw [pcells_len] at this
  omega
theorem RKst.rto (h : RKst w wr src rs n T k c' L b bd) (hr : Ris PP.k (L.map PV.pp)) : RtoAt wr rs ⟨L.map PV.pp, n⟩ T c' L ∧ (∀ y ∈ rowOf T, w.heap.size ≤ y) ∧ ∀ x ∈ L, x.v = [] ∨ ∀ y ∈ rowOf x.A, y ∈ src :=
  ⟨⟨by rw [h.ls]; exact h.row, rd_own h.own, fun x hx => (h.V x hx).1.ext h.E, rfl, hr⟩, base_le h.own, fun x hx => (h.V x hx).2⟩
end
/-- What the answer's reading of the snapshot's record leaves. -/
def Rkept (w : World) (src : List Nat) (r : List UInt8) (e : Ending) (w' : World) : Prop :=
  Ext w w' ∧ ((∃ K, snpD r = some K ∧ ∃ rs T c L, e = .returned (.tuple #[.pointer (some ⟨rs, 0, none⟩), .bool true]) ∧ RtoAt w' rs K T c L ∧ w.heap.size ≤ rs ∧ (∀ y ∈ rowOf T, w.heap.size ≤ y) ∧ ∀ x ∈ L, x.v = [] ∨ ∀ y ∈ rowOf x.A, y ∈ src) ∨
    (snpD r = none ∧ ∃ v, e = .returned (.tuple #[v, .bool false])))
theorem snpD_r (r : List UInt8) : (((rnS 8 r).2.2 || (tkS 4 (rnS 8 r).2.1).2.2) = true → snpD r = none) ∧
    (((rnS 8 r).2.2 || (tkS 4 (rnS 8 r).2.1).2.2) = false → snpD r = (prsD (num (tkS 4 (rnS 8 r).2.1).1) [] (tkS 4 (rnS 8 r).2.1).2.1).bind fun z => if z.2 = [] ∧ (rnS 8 r).1 ≤ 4611686018427387904 then some ⟨z.1, (rnS 8 r).1⟩ else none) ∧
    (rnS 8 r).1 < 9223372036854775808 := by
  by_cases h : (tkS 8 r).1.length = 8 ∧ 9223372036854775808 ≤ num (tkS 8 r).1
  · have e : rnS 8 r = (0, (tkS 8 r).2.1, true) := if_pos h
    rw [e]
    refine ⟨fun _ => ?_, fun h => by simp at h, by show 0 < _; omega⟩
    rw [snpD_S]
    split
    · rfl
    · rcases prsD (num (tkS 4 (tkS 8 r).2.1).1) [] (tkS 4 (tkS 8 r).2.1).2.1 with _ | z
      · rfl
      · simp only [Option.bind_some]
        rw [if_neg (by omega)]
  · have e : rnS 8 r = (num (tkS 8 r).1, (tkS 8 r).2.1, (tkS 8 r).2.2) := if_neg h
    rw [e]
    refine ⟨fun h => by rw [snpD_S, if_pos h], fun h => by rw [snpD_S]; simp only at h; rw [h]; simp, ?_⟩
    have h8 := (tkS_len 8 r).1
    show num (tkS 8 r).1 < _
    by_cases hl : (tkS 8 r).1.length = 8
    · have : ¬ 9223372036854775808 ≤ num (tkS 8 r).1 := fun hh => h ⟨hl, hh⟩
      omega
    · have := num_bd (l := (tkS 8 r).1) (n := 7) (by omega)
      have e1 : (256 : Nat) ^ 7 = 72057594037927936 := by decide
      omega
set_option maxRecDepth 4000 in
set_option maxHeartbeats 12800000 in
theorem rkept_any (src : List Nat) (A : Option Addr) (n c : Nat) (r : List UInt8) (w : World) (hl : r.length = n) (hr : Rd w A (r.map bv)) (hc : n ≤ c) (hm : c ≤ maxLen) (hnl : A = none → c = 0 ∨ src = []) (hsrc : r = [] ∨ ∀ x ∈ rowOf A, x ∈ src) (hss : ∀ x ∈ src, x < w.heap.size) :
    Calls Tryz.prog 60 #[.slice A n c] w (Rkept w src r) := by
  refine calls_hid fun G hG => ?_
  have hx0 := ext_alloc w (.cells #[.slice A n c, .bool false] 136)
  have hR0 : RrAt (w.alloc (.cells #[.slice A n c, .bool false] 136)) w.heap.size src r false := ⟨A, c, by rw [hl]; exact Row.alloc w [.slice A n c, .bool false] _, by omega, hm, hr.ext hx0, hsrc, hnl⟩
  have hps : w.heap.size ∉ src := fun h => by have := hss _ h; omega
  have hN8 := rnum8 w.heap.size src r false _ hR0 hps
  obtain ⟨hb1, hb2, hb3⟩ := snpD_r r
  have hb4 := tk4_bd (rnS 8 r).2.1
  go_enter Tryz.func60, Tryz.ntmps60
  go_wp2_with (first
    | (go_at_call 79; (with_reducible refine hN8.mono ?_); rintro e' w1 ⟨rfl, hR1, hK1⟩; have hR1a := hR1.ext (ext_alloc w1 (.cells #[.slice none 0 0, .int .i64 ((rnS 8 r).1 : Nat)] 31)); have hS1 : Row _ w1.heap.size 31 [.slice none 0 0, .int .i64 ((rnS 8 r).1 : Nat)] := Row.alloc w1 _ _; have hN4 := rnum4 w.heap.size src _ _ _ hR1a hps)
    | (go_at_call 79; (with_reducible refine hN4.mono ?_); rintro e' w2 ⟨rfl, hR2, hK2⟩))
  have hE1 : Ext w w1 := ext_keep hx0 hK1 (by simp)
  have hE2 : Ext w w2 := ext_keep (hE1.trans (ext_alloc _ _)) hK2 (by simp)
  have hp1 : w.heap.size < w1.heap.size := by have h1 := hK1.size; simp at h1; omega
  have hS2 := hS1.keep hK2 (fun hm => by have := List.mem_singleton.1 hm; omega)
  have hgo : ∀ T cT L b last bad wr k, RPs (num (tkS 4 (rnS 8 r).2.1).1) (tkS 4 (rnS 8 r).2.1).2.1 k (L.map PV.pp) b last bad → bad = false → k = num (tkS 4 (rnS 8 r).2.1).1 → ((false || (rnS 8 r).2.2) || (tkS 4 (rnS 8 r).2.1).2.2) = false → RKst w wr src w1.heap.size (rnS 8 r).1 T k cT L b false →
      G (.returned (.tuple #[.pointer (some ⟨w1.heap.size, 0, none⟩), .bool (decide (b = [] ∧ (rnS 8 r).1 ≤ 4611686018427387904))])) wr := fun T cT L b last bad wr k hP hbd hk hf hW => by
    subst hbd hk
    refine hG.out _ _ ⟨hW.E, ?_⟩
    have hf' : ((rnS 8 r).2.2 || (tkS 4 (rnS 8 r).2.1).2.2) = false := by simpa using hf
    have h2 := hP
    simp only [RPs, Bool.false_eq_true, if_false] at h2
    have h3 := h2.1.done
    have hris := (prsD_ris h3).2
    rw [hb2 hf', h3]
    simp only [Option.bind_some]
    by_cases hq : b = [] ∧ (rnS 8 r).1 ≤ 4611686018427387904
    · rw [if_pos hq, decide_eq_true hq]
      obtain ⟨h4, h5, h6⟩ := hW.rto hris
      exact .inl ⟨_, rfl, _, T, cT, L, rfl, h4, hE1.size, h5, h6⟩
    · rw [if_neg hq, decide_eq_false hq]
      exact .inr ⟨rfl, _, rfl⟩
  have hgb : ∀ v L b last bad wr k, RPs (num (tkS 4 (rnS 8 r).2.1).1) (tkS 4 (rnS 8 r).2.1).2.1 k L b last bad → (bad = true ∨ ((false || (rnS 8 r).2.2) || (tkS 4 (rnS 8 r).2.1).2.2) = true) → Ext w wr →
      G (.returned (.tuple #[v, .bool false])) wr := fun v L b last bad wr k hP hbd hE => by
    refine hG.out _ _ ⟨hE, .inr ⟨?_, _, rfl⟩⟩
    rcases hq : ((rnS 8 r).2.2 || (tkS 4 (rnS 8 r).2.1).2.2) with _ | _
    · rcases hbd with rfl | hbd
      · have h2 := hP
        simp only [RPs, if_true] at h2
        rw [hb2 hq, h2]
        rfl
      · rw [Bool.false_or, hq] at hbd; cases hbd
    · exact hb1 hq
  replace hgo := Lib.hid hgo
  replace hgb := Lib.hid hgb
  have hP0 : RPs (num (tkS 4 (rnS 8 r).2.1).1) (tkS 4 (rnS 8 r).2.1).2.1 0 [] (tkS 4 (rnS 8 r).2.1).2.1 [] false := by
    unfold RPs
    rw [if_neg (by simp)]
    exact ⟨PProg.start _ _, rfl⟩
  have hW0 : RKst w w2 src w1.heap.size (rnS 8 r).1 none 0 0 [] (tkS 4 (rnS 8 r).2.1).2.1 ((false || (rnS 8 r).2.2) || (tkS 4 (rnS 8 r).2.1).2.2) := ⟨hR2, hS2, World.ownsRow_nil _ _ _ _, by simp [rowOf], by simp [rowOf], hp1, by simp, hE2⟩
  generalize hrs : w1.heap.size = rs at *
  replace hrs := Lib.hid hrs
  clear hN8 hN4 hb1 hb2 hG hR1 hR0 hK1 hK2 hR1a hS1 hS2 hR2 hE2 hx0
  generalize (rnS 8 r).1 = n8 at *
  generalize ((false || (rnS 8 r).2.2) || (tkS 4 (rnS 8 r).2.1).2.2) = bd0 at *
  generalize (tkS 4 (rnS 8 r).2.1).2.1 = b0 at *
  generalize num (tkS 4 (rnS 8 r).2.1).1 = N at *
  go_loopw [7, 8] (fun la i wr => ∃ (k c' : Nat) (T : Option Addr) (L : List PV) (b : List UInt8) (bad : Bool) (last : List UInt8), k ≤ N ∧ i = .int .i64 k ∧ la = .string ⟨last.toArray⟩ ∧ Hid (RKst w wr src rs n8 T k c' L b (bd0 || bad)) ∧ Hid (RPs N b0 k (L.map PV.pp) b last bad)) (fun _ i _ => N - (intOf i).toNat)
  case atStart => exact ⟨0, 0, none, [], b0, false, [], Nat.zero_le _, rfl, rfl, Lib.hid (by rw [Bool.or_false]; exact hW0), Lib.hid hP0⟩
  case round =>
    obtain ⟨k, c', T, L, b, bad, last, hk, rfl, rfl, hW, hP⟩ := hrel
    have c1 := hW.out.R.flag.1
    by_cases hlt : k < N
    · rcases hbad : bd0 || bad with _ | _
      · rw [hbad] at c1
        obtain ⟨hbd0, hbad'⟩ : bd0 = false ∧ bad = false := by simpa using hbad
        subst hbad' hbd0
        have hplt := hW.out.plt
        have hN1 := rnum1 w.heap.size src b false wr hW.out.R hps
        have hk1 := tk1_bd b
        have hk4 := tk4_bd (tkS (num (tkS 1 b).1) (tkS 1 b).2.1).2.1
        have hpr : prS b = ((keyS b).1, (valS (keyS b).2.1).1, (valS (keyS b).2.1).2.1, (keyS b).2.2 || (valS (keyS b).2.1).2.2) := rfl
        have hkS : keyS b = ((tkS (num (tkS 1 b).1) (tkS 1 b).2.1).1, (tkS (num (tkS 1 b).1) (tkS 1 b).2.1).2.1, (tkS 1 b).2.2 || (num (tkS 1 b).1 == 0) || (tkS (num (tkS 1 b).1) (tkS 1 b).2.1).2.2) := rfl
        have hle : (!bytesBefore last (tkS (num (tkS 1 b).1) (tkS 1 b).2.1).1) = (Op.bytesLess (tkS (num (tkS 1 b).1) (tkS 1 b).2.1).1 last || ((tkS (num (tkS 1 b).1) (tkS 1 b).2.1).1 == last)) := by
          rw [← leK_not, bl_eq]
          rfl
        by_cases hbb : bytesBefore last (tkS (num (tkS 1 b).1) (tkS 1 b).2.1).1 = true
        · have hle2 := hle
          rw [hbb] at hle2
          obtain ⟨hb1, hb2⟩ : Op.bytesLess (tkS (num (tkS 1 b).1) (tkS 1 b).2.1).1 last = false ∧ ((tkS (num (tkS 1 b).1) (tkS 1 b).2.1).1 == last) = false := by
            rw [Bool.not_true] at hle2
            exact Bool.or_eq_false_iff.1 hle2.symm
          have hb3 : ¬ (tkS (num (tkS 1 b).1) (tkS 1 b).2.1).1 = last := fun e => by rw [e] at hb2; simp at hb2
          clear hle hle2
          by_cases hbg : 262144 < num (tkS 4 (tkS (num (tkS 1 b).1) (tkS 1 b).2.1).2.1).1
          · have q3 : decide (((num (tkS 4 (tkS (num (tkS 1 b).1) (tkS 1 b).2.1).2.1).1 : Nat) : Int) > 262144) = true := decide_eq_true (by omega)
            have hbadd : ¬ ((prS b).2.2.2 = false ∧ bytesBefore last (prS b).1 = true) := fun hh => by
              have hv : (valS (keyS b).2.1).2.2 = true := by
                show (valS (tkS (num (tkS 1 b).1) (tkS 1 b).2.1).2.1).2.2 = true
                unfold valS; rw [if_pos hbg]
              rw [hpr] at hh
              have := hh.1
              simp only [hv, Bool.or_true] at this
              cases this
            replace hbadd := Lib.hid hbadd
            clear hpr hkS
            go_wp2_with (first
              | (go_at_call 79; (with_reducible refine hN1.mono ?_); rintro e' w3 ⟨rfl, hR3, hK3⟩; have hW3 := hW.out.rdr hK3 hR3; have hT3 := rtake_any w.heap.size src _ _ (num (tkS 1 b).1) _ hW3.R hps (by omega); replace hR3 := Lib.hid hR3; replace hW3 := Lib.hid hW3)
              | (go_at_call 80; (with_reducible refine hT3.mono ?_); rintro e' w4 ⟨A4, c4, rfl, _, _, _, hrd4, _, hR4, hK4⟩; have hcv := run_convert_rd (P := Tryz.prog) w4 43 9 5 Tryz.underlying43 Tryz.underlying5 Tryz.underlying9 A4 (tkS (num (tkS 1 b).1) (tkS 1 b).2.1).1.length c4 (tkS (num (tkS 1 b).1) (tkS 1 b).2.1).1 rfl hrd4; have hW4 := hW3.out.rdr hK4 hR4; have hN4 := rnum4 w.heap.size src _ _ _ hW4.R hps; replace hR4 := Lib.hid hR4; replace hW4 := Lib.hid hW4)
              | (go_at_call 79; (with_reducible refine hN4.mono ?_); rintro e' w5 ⟨rfl, hR5, hK5⟩; have hW5 := hW4.out.rdr hK5 hR5; have hT5 := rtake_any w.heap.size src _ _ (num (tkS 4 (tkS (num (tkS 1 b).1) (tkS 1 b).2.1).2.1).1) _ hW5.R hps (by omega); replace hR5 := Lib.hid hR5; replace hW5 := Lib.hid hW5)
              | (go_at_call 80; (with_reducible refine hT5.mono ?_); rintro e' w6 ⟨A6, c6, rfl, _, _, _, hrd6, hsr6, hR6, hK6⟩; have hW6 := hW5.out.rdr hK6 hR6; have gg := hW6.R.flag.1; have gff := hW6.R.flag.2; have s6 := hW6.c0; have hne : rs ≠ w.heap.size := (Nat.ne_of_gt hW6.ne); have hWf := hW6.mark hps; have s7 := hWf.c0)
              | (at_builtin; refine wpList_appfam rfl (.tmp 57) (.tmp 61) 29 87 2 40 rfl pairRow w.heap.size T k c' _ rfl (hWf.ext (ext_alloc _ _)).own ⟨w6.heap.size, 0, none⟩ 1 1 [.string ⟨(tkS (num (tkS 1 b).1) (tkS 1 b).2.1).1.toArray⟩, .slice A6 (tkS (num (tkS 4 (tkS (num (tkS 1 b).1) (tkS 1 b).2.1).2.1).1) (tkS 4 (tkS (num (tkS 1 b).1) (tkS 1 b).2.1).2.1).2.1).1.length c6] rfl rfl (rd_list' _ _ _ (by simp)) (by intro u hu; simp at hu; rcases hu with rfl | rfl <;> rfl) (by unfold maxLen; omega) (by omega) (Nat.le_of_lt (hWf.ext (ext_alloc _ _)).plt) ?_; intro T8 c8 w8 ho8 hk8 hn8; have hpu := hWf.push (x := ⟨⟨(tkS (num (tkS 1 b).1) (tkS 1 b).2.1).1.toArray⟩, A6, c6, (tkS (num (tkS 4 (tkS (num (tkS 1 b).1) (tkS 1 b).2.1).2.1).1) (tkS 4 (tkS (num (tkS 1 b).1) (tkS 1 b).2.1).2.1).2.1).1⟩) hss (hW6.vok hss hrd6 hsr6) (ext_alloc _ _) hk8 ho8 hn8; obtain ⟨s8, f8, hfin⟩ := hpu))
            go_roundw
            case rel => exact ⟨k + 1, c8, T8, L ++ [⟨⟨(tkS (num (tkS 1 b).1) (tkS 1 b).2.1).1.toArray⟩, A6, c6, (tkS (num (tkS 4 (tkS (num (tkS 1 b).1) (tkS 1 b).2.1).2.1).1) (tkS 4 (tkS (num (tkS 1 b).1) (tkS 1 b).2.1).2.1).2.1).1⟩], (tkS (num (tkS 4 (tkS (num (tkS 1 b).1) (tkS 1 b).2.1).2.1).1) (tkS 4 (tkS (num (tkS 1 b).1) (tkS 1 b).2.1).2.1).2.1).2.1, true, (tkS (num (tkS 1 b).1) (tkS 1 b).2.1).1, hlt, by go_num, rfl, Lib.hid hfin, Lib.hid (hP.out.worse hlt hbadd.out _)⟩
            case measure => simp [intOf]; omega
          · have q3 : decide (((num (tkS 4 (tkS (num (tkS 1 b).1) (tkS 1 b).2.1).2.1).1 : Nat) : Int) > 262144) = false := decide_eq_false (by omega)
            have hn1 : (num (tkS 1 b).1 == 0) = false := by
              rcases hz : num (tkS 1 b).1 with _ | z
              · rw [hz] at hbb
                have := (tkS_len 0 (tkS 1 b).2.1).1
                have e0 : (tkS 0 (tkS 1 b).2.1).1 = [] := List.eq_nil_of_length_eq_zero (by omega)
                rw [e0] at hbb
                rcases last with _ | ⟨x, y⟩ <;> simp [bytesBefore] at hbb
              · rfl
            have hv : valS (tkS (num (tkS 1 b).1) (tkS 1 b).2.1).2.1 = ((tkS (num (tkS 4 (tkS (num (tkS 1 b).1) (tkS 1 b).2.1).2.1).1) (tkS 4 (tkS (num (tkS 1 b).1) (tkS 1 b).2.1).2.1).2.1).1, (tkS (num (tkS 4 (tkS (num (tkS 1 b).1) (tkS 1 b).2.1).2.1).1) (tkS 4 (tkS (num (tkS 1 b).1) (tkS 1 b).2.1).2.1).2.1).2.1, (tkS 4 (tkS (num (tkS 1 b).1) (tkS 1 b).2.1).2.1).2.2 || (tkS (num (tkS 4 (tkS (num (tkS 1 b).1) (tkS 1 b).2.1).2.1).1) (tkS 4 (tkS (num (tkS 1 b).1) (tkS 1 b).2.1).2.1).2.1).2.2) := by unfold valS; rw [if_neg hbg]
            have hprs : prS b = ((tkS (num (tkS 1 b).1) (tkS 1 b).2.1).1, (tkS (num (tkS 4 (tkS (num (tkS 1 b).1) (tkS 1 b).2.1).2.1).1) (tkS 4 (tkS (num (tkS 1 b).1) (tkS 1 b).2.1).2.1).2.1).1, (tkS (num (tkS 4 (tkS (num (tkS 1 b).1) (tkS 1 b).2.1).2.1).1) (tkS 4 (tkS (num (tkS 1 b).1) (tkS 1 b).2.1).2.1).2.1).2.1, ((((false || (tkS 1 b).2.2) || (tkS (num (tkS 1 b).1) (tkS 1 b).2.1).2.2) || (tkS 4 (tkS (num (tkS 1 b).1) (tkS 1 b).2.1).2.1).2.2) || (tkS (num (tkS 4 (tkS (num (tkS 1 b).1) (tkS 1 b).2.1).2.1).1) (tkS 4 (tkS (num (tkS 1 b).1) (tkS 1 b).2.1).2.1).2.1).2.2)) := by
              rw [hpr, hkS, hn1]
              simp only
              rw [hv]
              simp [Bool.or_assoc]
            have hgood := hP.out.next hlt (fl := ((((false || (tkS 1 b).2.2) || (tkS (num (tkS 1 b).1) (tkS 1 b).2.1).2.2) || (tkS 4 (tkS (num (tkS 1 b).1) (tkS 1 b).2.1).2.1).2.2) || (tkS (num (tkS 4 (tkS (num (tkS 1 b).1) (tkS 1 b).2.1).2.1).1) (tkS 4 (tkS (num (tkS 1 b).1) (tkS 1 b).2.1).2.1).2.1).2.2)) (by rw [hprs]) (by rw [hprs]; exact hbb)
            rw [hprs] at hgood
            replace hgood := Lib.hid hgood
            replace hprs := Lib.hid hprs
            replace hbb := Lib.hid hbb
            clear hpr hkS hv hn1
            go_wp2_with (first
              | (go_at_call 79; (with_reducible refine hN1.mono ?_); rintro e' w3 ⟨rfl, hR3, hK3⟩; have hW3 := hW.out.rdr hK3 hR3; have hT3 := rtake_any w.heap.size src _ _ (num (tkS 1 b).1) _ hW3.R hps (by omega); replace hR3 := Lib.hid hR3; replace hW3 := Lib.hid hW3)
              | (go_at_call 80; (with_reducible refine hT3.mono ?_); rintro e' w4 ⟨A4, c4, rfl, _, _, _, hrd4, _, hR4, hK4⟩; have hcv := run_convert_rd (P := Tryz.prog) w4 43 9 5 Tryz.underlying43 Tryz.underlying5 Tryz.underlying9 A4 (tkS (num (tkS 1 b).1) (tkS 1 b).2.1).1.length c4 (tkS (num (tkS 1 b).1) (tkS 1 b).2.1).1 rfl hrd4; have hW4 := hW3.out.rdr hK4 hR4; have hN4 := rnum4 w.heap.size src _ _ _ hW4.R hps; replace hR4 := Lib.hid hR4; replace hW4 := Lib.hid hW4)
              | (go_at_call 79; (with_reducible refine hN4.mono ?_); rintro e' w5 ⟨rfl, hR5, hK5⟩; have hW5 := hW4.out.rdr hK5 hR5; have hT5 := rtake_any w.heap.size src _ _ (num (tkS 4 (tkS (num (tkS 1 b).1) (tkS 1 b).2.1).2.1).1) _ hW5.R hps (by omega); replace hR5 := Lib.hid hR5; replace hW5 := Lib.hid hW5)
              | (go_at_call 80; (with_reducible refine hT5.mono ?_); rintro e' w6 ⟨A6, c6, rfl, _, _, _, hrd6, hsr6, hR6, hK6⟩; have hW6 := hW5.out.rdr hK6 hR6; have gg := hW6.R.flag.1; have gff := hW6.R.flag.2; have s6 := hW6.c0; have hne : rs ≠ w.heap.size := (Nat.ne_of_gt hW6.ne); have hWf := hW6; have s7 := hWf.c0)
              | (at_builtin; refine wpList_appfam rfl (.tmp 57) (.tmp 61) 29 87 2 40 rfl pairRow w.heap.size T k c' _ rfl (hWf.ext (ext_alloc _ _)).own ⟨w6.heap.size, 0, none⟩ 1 1 [.string ⟨(tkS (num (tkS 1 b).1) (tkS 1 b).2.1).1.toArray⟩, .slice A6 (tkS (num (tkS 4 (tkS (num (tkS 1 b).1) (tkS 1 b).2.1).2.1).1) (tkS 4 (tkS (num (tkS 1 b).1) (tkS 1 b).2.1).2.1).2.1).1.length c6] rfl rfl (rd_list' _ _ _ (by simp)) (by intro u hu; simp at hu; rcases hu with rfl | rfl <;> rfl) (by unfold maxLen; omega) (by omega) (Nat.le_of_lt (hWf.ext (ext_alloc _ _)).plt) ?_; intro T8 c8 w8 ho8 hk8 hn8; have hpu := hWf.push (x := ⟨⟨(tkS (num (tkS 1 b).1) (tkS 1 b).2.1).1.toArray⟩, A6, c6, (tkS (num (tkS 4 (tkS (num (tkS 1 b).1) (tkS 1 b).2.1).2.1).1) (tkS 4 (tkS (num (tkS 1 b).1) (tkS 1 b).2.1).2.1).2.1).1⟩) hss (hW6.vok hss hrd6 hsr6) (ext_alloc _ _) hk8 ho8 hn8; obtain ⟨s8, f8, hfin⟩ := hpu))
            go_roundw
            case rel => exact ⟨k + 1, c8, T8, L ++ [⟨⟨(tkS (num (tkS 1 b).1) (tkS 1 b).2.1).1.toArray⟩, A6, c6, (tkS (num (tkS 4 (tkS (num (tkS 1 b).1) (tkS 1 b).2.1).2.1).1) (tkS 4 (tkS (num (tkS 1 b).1) (tkS 1 b).2.1).2.1).2.1).1⟩], (tkS (num (tkS 4 (tkS (num (tkS 1 b).1) (tkS 1 b).2.1).2.1).1) (tkS 4 (tkS (num (tkS 1 b).1) (tkS 1 b).2.1).2.1).2.1).2.1, ((((false || (tkS 1 b).2.2) || (tkS (num (tkS 1 b).1) (tkS 1 b).2.1).2.2) || (tkS 4 (tkS (num (tkS 1 b).1) (tkS 1 b).2.1).2.1).2.2) || (tkS (num (tkS 4 (tkS (num (tkS 1 b).1) (tkS 1 b).2.1).2.1).1) (tkS 4 (tkS (num (tkS 1 b).1) (tkS 1 b).2.1).2.1).2.1).2.2), (tkS (num (tkS 1 b).1) (tkS 1 b).2.1).1, hlt, by go_num, rfl, Lib.hid (by rw [Bool.false_or]; exact hfin), Lib.hid (by rw [List.map_append]; exact hgood.out)⟩
            case measure => simp [intOf]; omega
        · have hbadd : ¬ ((prS b).2.2.2 = false ∧ bytesBefore last (prS b).1 = true) := fun hh => hbb hh.2
          replace hbadd := Lib.hid hbadd
          have hbf : bytesBefore last (tkS (num (tkS 1 b).1) (tkS 1 b).2.1).1 = false := by simpa using hbb
          rw [hbf] at hle
          replace hbb := Lib.hid hbb
          replace hbf := Lib.hid hbf
          clear hpr hkS
          rcases hb1 : Op.bytesLess (tkS (num (tkS 1 b).1) (tkS 1 b).2.1).1 last with _ | _
          · have hb2 : (tkS (num (tkS 1 b).1) (tkS 1 b).2.1).1 = last := by
              rw [hb1] at hle
              simpa using hle
            clear hle
            subst hb2
            go_wp2_with (first
              | (go_at_call 79; (with_reducible refine hN1.mono ?_); rintro e' w3 ⟨rfl, hR3, hK3⟩; have hW3 := hW.out.rdr hK3 hR3; have hT3 := rtake_any w.heap.size src _ _ (num (tkS 1 b).1) _ hW3.R hps (by omega); replace hR3 := Lib.hid hR3; replace hW3 := Lib.hid hW3)
              | (go_at_call 80; (with_reducible refine hT3.mono ?_); rintro e' w4 ⟨A4, c4, rfl, _, _, _, hrd4, _, hR4, hK4⟩; have hcv := run_convert_rd (P := Tryz.prog) w4 43 9 5 Tryz.underlying43 Tryz.underlying5 Tryz.underlying9 A4 (tkS (num (tkS 1 b).1) (tkS 1 b).2.1).1.length c4 (tkS (num (tkS 1 b).1) (tkS 1 b).2.1).1 rfl hrd4; have hW4 := hW3.out.rdr hK4 hR4; have hN4 := rnum4 w.heap.size src _ _ _ hW4.R hps; replace hR4 := Lib.hid hR4; replace hW4 := Lib.hid hW4)
              | (go_at_call 79; (with_reducible refine hN4.mono ?_); rintro e' w5 ⟨rfl, hR5, hK5⟩; have hW5 := hW4.out.rdr hK5 hR5; have hT5 := rtake_any w.heap.size src _ _ (num (tkS 4 (tkS (num (tkS 1 b).1) (tkS 1 b).2.1).2.1).1) _ hW5.R hps (by omega); replace hR5 := Lib.hid hR5; replace hW5 := Lib.hid hW5)
              | (go_at_call 80; (with_reducible refine hT5.mono ?_); rintro e' w6 ⟨A6, c6, rfl, _, _, _, hrd6, hsr6, hR6, hK6⟩; have hW6 := hW5.out.rdr hK6 hR6; have gg := hW6.R.flag.1; have gff := hW6.R.flag.2; have s6 := hW6.c0; have hne : rs ≠ w.heap.size := (Nat.ne_of_gt hW6.ne); have hWf := hW6.mark hps; have s7 := hWf.c0)
              | (at_builtin; refine wpList_appfam rfl (.tmp 57) (.tmp 61) 29 87 2 40 rfl pairRow w.heap.size T k c' _ rfl (hWf.ext (ext_alloc _ _)).own ⟨w6.heap.size, 0, none⟩ 1 1 [.string ⟨(tkS (num (tkS 1 b).1) (tkS 1 b).2.1).1.toArray⟩, .slice A6 (tkS (num (tkS 4 (tkS (num (tkS 1 b).1) (tkS 1 b).2.1).2.1).1) (tkS 4 (tkS (num (tkS 1 b).1) (tkS 1 b).2.1).2.1).2.1).1.length c6] rfl rfl (rd_list' _ _ _ (by simp)) (by intro u hu; simp at hu; rcases hu with rfl | rfl <;> rfl) (by unfold maxLen; omega) (by omega) (Nat.le_of_lt (hWf.ext (ext_alloc _ _)).plt) ?_; intro T8 c8 w8 ho8 hk8 hn8; have hpu := hWf.push (x := ⟨⟨(tkS (num (tkS 1 b).1) (tkS 1 b).2.1).1.toArray⟩, A6, c6, (tkS (num (tkS 4 (tkS (num (tkS 1 b).1) (tkS 1 b).2.1).2.1).1) (tkS 4 (tkS (num (tkS 1 b).1) (tkS 1 b).2.1).2.1).2.1).1⟩) hss (hW6.vok hss hrd6 hsr6) (ext_alloc _ _) hk8 ho8 hn8; obtain ⟨s8, f8, hfin⟩ := hpu))
            go_roundw
            case rel => exact ⟨k + 1, c8, T8, L ++ [⟨⟨(tkS (num (tkS 1 b).1) (tkS 1 b).2.1).1.toArray⟩, A6, c6, (tkS (num (tkS 4 (tkS (num (tkS 1 b).1) (tkS 1 b).2.1).2.1).1) (tkS 4 (tkS (num (tkS 1 b).1) (tkS 1 b).2.1).2.1).2.1).1⟩], (tkS (num (tkS 4 (tkS (num (tkS 1 b).1) (tkS 1 b).2.1).2.1).1) (tkS 4 (tkS (num (tkS 1 b).1) (tkS 1 b).2.1).2.1).2.1).2.1, true, (tkS (num (tkS 1 b).1) (tkS 1 b).2.1).1, hlt, by go_num, rfl, Lib.hid hfin, Lib.hid (hP.out.worse hlt hbadd.out _)⟩
            case measure => simp [intOf]; omega
          · clear hle
            go_wp2_with (first
              | (go_at_call 79; (with_reducible refine hN1.mono ?_); rintro e' w3 ⟨rfl, hR3, hK3⟩; have hW3 := hW.out.rdr hK3 hR3; have hT3 := rtake_any w.heap.size src _ _ (num (tkS 1 b).1) _ hW3.R hps (by omega); replace hR3 := Lib.hid hR3; replace hW3 := Lib.hid hW3)
              | (go_at_call 80; (with_reducible refine hT3.mono ?_); rintro e' w4 ⟨A4, c4, rfl, _, _, _, hrd4, _, hR4, hK4⟩; have hcv := run_convert_rd (P := Tryz.prog) w4 43 9 5 Tryz.underlying43 Tryz.underlying5 Tryz.underlying9 A4 (tkS (num (tkS 1 b).1) (tkS 1 b).2.1).1.length c4 (tkS (num (tkS 1 b).1) (tkS 1 b).2.1).1 rfl hrd4; have hW4 := hW3.out.rdr hK4 hR4; have hN4 := rnum4 w.heap.size src _ _ _ hW4.R hps; replace hR4 := Lib.hid hR4; replace hW4 := Lib.hid hW4)
              | (go_at_call 79; (with_reducible refine hN4.mono ?_); rintro e' w5 ⟨rfl, hR5, hK5⟩; have hW5 := hW4.out.rdr hK5 hR5; have hT5 := rtake_any w.heap.size src _ _ (num (tkS 4 (tkS (num (tkS 1 b).1) (tkS 1 b).2.1).2.1).1) _ hW5.R hps (by omega); replace hR5 := Lib.hid hR5; replace hW5 := Lib.hid hW5)
              | (go_at_call 80; (with_reducible refine hT5.mono ?_); rintro e' w6 ⟨A6, c6, rfl, _, _, _, hrd6, hsr6, hR6, hK6⟩; have hW6 := hW5.out.rdr hK6 hR6; have gg := hW6.R.flag.1; have gff := hW6.R.flag.2; have s6 := hW6.c0; have hne : rs ≠ w.heap.size := (Nat.ne_of_gt hW6.ne); have hWf := hW6.mark hps; have s7 := hWf.c0)
              | (at_builtin; refine wpList_appfam rfl (.tmp 57) (.tmp 61) 29 87 2 40 rfl pairRow w.heap.size T k c' _ rfl (hWf.ext (ext_alloc _ _)).own ⟨w6.heap.size, 0, none⟩ 1 1 [.string ⟨(tkS (num (tkS 1 b).1) (tkS 1 b).2.1).1.toArray⟩, .slice A6 (tkS (num (tkS 4 (tkS (num (tkS 1 b).1) (tkS 1 b).2.1).2.1).1) (tkS 4 (tkS (num (tkS 1 b).1) (tkS 1 b).2.1).2.1).2.1).1.length c6] rfl rfl (rd_list' _ _ _ (by simp)) (by intro u hu; simp at hu; rcases hu with rfl | rfl <;> rfl) (by unfold maxLen; omega) (by omega) (Nat.le_of_lt (hWf.ext (ext_alloc _ _)).plt) ?_; intro T8 c8 w8 ho8 hk8 hn8; have hpu := hWf.push (x := ⟨⟨(tkS (num (tkS 1 b).1) (tkS 1 b).2.1).1.toArray⟩, A6, c6, (tkS (num (tkS 4 (tkS (num (tkS 1 b).1) (tkS 1 b).2.1).2.1).1) (tkS 4 (tkS (num (tkS 1 b).1) (tkS 1 b).2.1).2.1).2.1).1⟩) hss (hW6.vok hss hrd6 hsr6) (ext_alloc _ _) hk8 ho8 hn8; obtain ⟨s8, f8, hfin⟩ := hpu))
            go_roundw
            case rel => exact ⟨k + 1, c8, T8, L ++ [⟨⟨(tkS (num (tkS 1 b).1) (tkS 1 b).2.1).1.toArray⟩, A6, c6, (tkS (num (tkS 4 (tkS (num (tkS 1 b).1) (tkS 1 b).2.1).2.1).1) (tkS 4 (tkS (num (tkS 1 b).1) (tkS 1 b).2.1).2.1).2.1).1⟩], (tkS (num (tkS 4 (tkS (num (tkS 1 b).1) (tkS 1 b).2.1).2.1).1) (tkS 4 (tkS (num (tkS 1 b).1) (tkS 1 b).2.1).2.1).2.1).2.1, true, (tkS (num (tkS 1 b).1) (tkS 1 b).2.1).1, hlt, by go_num, rfl, Lib.hid hfin, Lib.hid (hP.out.worse hlt hbadd.out _)⟩
            case measure => simp [intOf]; omega
      · rw [hbad] at c1
        have hW' := Lib.hid hW.out.E
        have s1 : wr.cell? ⟨rs, 1, none⟩ = some (.int .i64 n8) := hW.out.row.cell (i := 1) (by simp)
        go_wp2
        have hE' := fun w' (hx : Ext wr w') => hgb.out (.pointer (some ⟨rs, 0, none⟩)) (L.map PV.pp) b last bad w' k hP.out (by revert hbad; cases bd0 <;> cases bad <;> simp) (hW'.out.trans hx)
        replace hE' := Lib.hid hE'
        go_region
        all_goals
          go_wp2
          try go_ret2
          exact hE'.out _ (by first | exact Ext.refl _ | exact ext_drew _ | exact (Ext.refl _).drewN _)
    · obtain rfl : k = N := by omega
      rcases hbad : bd0 || bad with _ | _
      · rw [hbad] at c1
        obtain ⟨A0, c0, hrow, _⟩ := hW.out.R.row
        have e0 : wr.cell? ⟨w.heap.size, 0, none⟩ = some (.slice A0 b.length c0) := hrow.cell (i := 0) (by simp)
        have s1 : wr.cell? ⟨rs, 1, none⟩ = some (.int .i64 n8) := hW.out.row.cell (i := 1) (by simp)
        obtain ⟨hbd0, hbad'⟩ : bd0 = false ∧ bad = false := by simpa using hbad
        have hW2 := hW.out
        rw [hbad] at hW2
        have hgg := fun w' (hx : Ext wr w') => hgo.out T c' L b last bad w' k hP.out hbad' rfl hbd0 (hW2.ext hx)
        have e1 : decide (b = [] ∧ n8 ≤ 4611686018427387904) = (((b.length : Int) == 0) && decide ((n8 : Int) ≤ 4611686018427387904)) := by
          rcases b with _ | ⟨x, y⟩
          · simp
            by_cases h1 : n8 ≤ 4611686018427387904 <;> simp [h1] <;> omega
          · simp
            omega
        rw [e1] at hgg
        replace hgg := Lib.hid hgg
        clear e1 hrow hW2
        rcases hq0 : ((b.length : Int) == 0) with _ | _ <;> rcases hq1 : decide ((n8 : Int) ≤ 4611686018427387904) with _ | _
        all_goals
          rw [hq0, hq1] at hgg
          go_wp2
          first | go_region | skip
          all_goals
            go_wp2
            try go_ret2
            exact hgg.out _ (by first | exact Ext.refl _ | exact ext_drew _ | exact (Ext.refl _).drewN _)
      · rw [hbad] at c1
        have hW' := Lib.hid hW.out.E
        have s1 : wr.cell? ⟨rs, 1, none⟩ = some (.int .i64 n8) := hW.out.row.cell (i := 1) (by simp)
        have hE' := fun w' (hx : Ext wr w') => hgb.out (.pointer (some ⟨rs, 0, none⟩)) (L.map PV.pp) b last bad w' k hP.out (by revert hbad; cases bd0 <;> cases bad <;> simp) (hW'.out.trans hx)
        replace hE' := Lib.hid hE'
        go_wp2
        go_region
        all_goals
          go_wp2
          try go_ret2
          exact hE'.out _ (by first | exact Ext.refl _ | exact ext_drew _ | exact (Ext.refl _).drewN _)
end Go.Proofs.YtjnbbfhoegeppaaGreatDoor
