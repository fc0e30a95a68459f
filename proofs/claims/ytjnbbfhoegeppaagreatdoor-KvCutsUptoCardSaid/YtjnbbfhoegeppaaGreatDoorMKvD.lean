/-
  Walks of the store: the writes that a record tells.
-/
import Derived.Test.YtjnbbfhoegeppaaGreatDoorMKvC
set_option linter.unusedSimpArgs false
set_option linter.unusedVariables false
namespace Go.Cv
open Go.RowKit
theorem Ty.uniq {w : World} {b : Nat} {T T' : TypeId} (h : Ty w b T) (h' : Ty w b T') : T = T' := by
  obtain ⟨cs, fr, h⟩ := h
  obtain ⟨cs', fr', h'⟩ := h'
  rw [h] at h'
  injection h' with h'
  injection h' with _ h2
theorem Ty.keep {w w' : World} {b : Nat} {T : TypeId} {bs : List Nat} (h : Ty w b T) (hk : Keep bs w w') (hb : b ∉ bs) : Ty w' b T := by
  obtain ⟨cs, fr, h⟩ := h
  exact ⟨cs, fr, hk.row h hb⟩
theorem Ty.of_row {w : World} {b : Nat} {T : TypeId} {cs : List Value} (h : Row w b T cs) : Ty w b T := ⟨_, _, h⟩
end Go.Cv
namespace Go.Proofs.YtjnbbfhoegeppaaGreatDoor
open Go.RowKit Go.Cv Go.Cv.Dk Go.Cv.Wal Go.Cv.Kv
/-- A write whose value lies in a row of bytes that is the call's own. -/
structure VOk (w : World) (base : Nat) (x : WV) : Prop where
  ok : x.Ok w
  ty : ∀ y ∈ rowOf x.A, base ≤ y ∧ Ty w y 5
theorem VOk.keep {w w' : World} {base : Nat} {x : WV} {bs : List Nat} (h : VOk w base x) (hk : Keep bs w w') (hb : ∀ b ∈ bs, ∃ T, T ≠ 5 ∧ Ty w b T) : VOk w' base x := by
  have hn : ∀ y ∈ rowOf x.A, y ∉ bs := fun y hy hm => by
    obtain ⟨T, hT, hty⟩ := hb y hm
    exact hT (hty.uniq (h.ty y hy).2)
  exact ⟨⟨h.ok.rd.keep hk fun ad e => hn _ (by simp [rowOf, e]), h.ok.nl, h.ok.kb, h.ok.vb⟩, fun y hy => ⟨(h.ty y hy).1, (h.ty y hy).2.keep hk (hn y hy)⟩⟩
theorem VOk.ext {w w' : World} {base : Nat} {x : WV} (h : VOk w base x) (hx : Ext w w') : VOk w' base x := h.keep (Keep.of_ext (bs := []) hx) (by simp)
theorem writeRow : RowS Tryz.prog 32 45 3 48 := RowS.of (z := .agg #[.string ⟨#[]⟩, .slice none 0 0, .bool false]) (by omega) Tryz.underlying32 (by kernel_rfl) rfl
theorem row_ty {w : World} {base n c s : Nat} {A : Option Addr} {xs : List Value} {e : TypeId} (h : w.ownsRow base e s (.slice A n c) n xs) : ∀ x ∈ rowOf A, Ty w x e := fun x hx => by
  rcases A with _ | ad
  · cases hx
  · simp [rowOf] at hx; subst hx; exact own_ty h ad rfl
theorem rdr_ty {w : World} {p : Nat} {src : List Nat} {l : List UInt8} {bad : Bool} (h : RdrAt w p src l bad) : Ty w p 123 := by
  obtain ⟨A, c, h1, _⟩ := h.row
  exact Ty.of_row h1
/-- What the writes of a record leave. -/
def Wrote (w : World) (r : List UInt8) (e : Ending) (w' : World) : Prop :=
  Ext w w' ∧ ((∃ z, batD r = some z ∧ ∃ T cT L, z.2 = L.map WV.pw ∧ e = .returned (.tuple #[.int .i64 (IntKind.i64.wrap (z.1 : Nat)), .slice T L.length cT, .bool true]) ∧ WsAt w' T L ∧ (∀ y ∈ rowOf T, w.heap.size ≤ y) ∧ ∀ x ∈ L, ∀ y ∈ rowOf x.A, w.heap.size ≤ y) ∨
    (batD r = none ∧ ∃ v1 v2, e = .returned (.tuple #[v1, v2, .bool false])))
theorem vals_len (l : List UInt8) : (valS l).1.length ≤ 262144 := by
  unfold valS
  split
  · simp
  · have := (tkS_len (num (tkS 4 l).1) (tkS 4 l).2.1).1
    simp only
    omega
theorem keys_len (l : List UInt8) : (keyS l).1.length ≤ 255 := by
  have := (tkS_len (num (tkS 1 l).1) (tkS 1 l).2.1).1
  have := tk1_bd l
  unfold keyS
  simp only
  omega
/-- Where a loop over writes stands. -/
structure Wst (w wr : World) (src : List Nat) (T : Option Addr) (k c' : Nat) (L : List WV) (b : List UInt8) (bd : Bool) : Prop where
  R : RdrAt wr w.heap.size src b bd
  own : wr.ownsRow w.heap.size 45 3 (.slice T k c') k (L.flatMap WV.cells)
  pT : w.heap.size ∉ rowOf T
  V : ∀ x ∈ L, VOk wr w.heap.size x
  E : Ext w wr
theorem Wst.by {w wr wr' : World} {src bs : List Nat} {T : Option Addr} {k c' : Nat} {L : List WV} {b b' : List UInt8} {bd bd' : Bool} (h : Wst w wr src T k c' L b bd) (hk : Keep bs wr wr') (hbs : ∀ x ∈ bs, w.heap.size ≤ x ∧ x ∉ rowOf T ∧ ∃ U, U ≠ 5 ∧ Ty wr x U) (hR : RdrAt wr' w.heap.size src b' bd') : Wst w wr' src T k c' L b' bd' :=
  ⟨hR, own_keep h.own hk fun g hg hm => (hbs g hm).2.1 (by
    rcases T with _ | ad
    · cases hg
    · simp [Value.ownBlock] at hg; simp [rowOf, hg]), h.pT, fun x hx => (h.V x hx).keep hk fun y hy => (hbs y hy).2.2, ext_keep h.E hk fun x hx => (hbs x hx).1⟩
theorem Wst.rdr {w wr wr' : World} {src : List Nat} {T : Option Addr} {k c' : Nat} {L : List WV} {b b' : List UInt8} {bd bd' : Bool} (h : Wst w wr src T k c' L b bd) (hk : Keep [w.heap.size] wr wr') (hR : RdrAt wr' w.heap.size src b' bd') : Wst w wr' src T k c' L b' bd' :=
  h.by hk (fun x hx => by rw [List.mem_singleton.1 hx]; exact ⟨Nat.le_refl _, h.pT, _, by decide, rdr_ty h.R⟩) hR
theorem Wst.ext {w wr wr' : World} {src : List Nat} {T : Option Addr} {k c' : Nat} {L : List WV} {b : List UInt8} {bd : Bool} (h : Wst w wr src T k c' L b bd) (hx : Ext wr wr') : Wst w wr' src T k c' L b bd :=
  h.by (Keep.of_ext (bs := []) hx) (by simp) (h.R.ext hx)
theorem Wst.plt {w wr : World} {src : List Nat} {T : Option Addr} {k c' : Nat} {L : List WV} {b : List UInt8} {bd : Bool} (h : Wst w wr src T k c' L b bd) : w.heap.size < wr.heap.size := by
  obtain ⟨A, c, h1, _⟩ := h.R.row
  exact h1.lt
/-- One cell of the box is laid anew. -/
theorem Wst.box {w wr : World} {src : List Nat} {T : Option Addr} {k c' bx i : Nat} {L : List WV} {b : List UInt8} {bd : Bool} {cs : List Value} {v : Value} (h : Wst w wr src T k c' L b bd) (hss : ∀ x ∈ src, x < w.heap.size) (hrow : Row wr bx 45 cs) (hb : w.heap.size < bx) (hT : bx ∉ rowOf T) :
    Wst w (wr.setCell ⟨bx, i, none⟩ v) src T k c' L b bd := by
  have hk := Keep.setCell wr ⟨bx, i, none⟩ v
  refine h.by hk (fun x hx => ?_) (h.R.keep hk (fun hm => by have := List.mem_singleton.1 hm; simp at this; omega) fun x hx hm => by have := List.mem_singleton.1 hm; simp at this; have := hss x hx; omega)
  have hx' : x = bx := List.mem_singleton.1 hx
  rw [hx']
  exact ⟨by omega, hT, _, by decide, Ty.of_row hrow⟩
theorem Wst.push {w w6 w7 w8 : World} {src : List Nat} {T T8 : Option Addr} {k c' c8 : Nat} {L : List WV} {x : WV} {b : List UInt8} {bd : Bool} (h : Wst w w6 src T k c' L b bd) (hss : ∀ x ∈ src, x < w.heap.size) (hx : VOk w6 w.heap.size x) (h67 : Ext w6 w7) (hk : Keep (rowOf T) w7 w8)
    (ho : w8.ownsRow w.heap.size 45 3 (.slice T8 (k + 1) c8) (k + 1) (L.flatMap WV.cells ++ x.cells)) (hn : ∀ y ∈ rowOf T8, y ∈ rowOf T ∨ w7.heap.size ≤ y) : Wst w w8 src T8 (k + 1) c8 (L ++ [x]) b bd := by
  have h7 := h.ext h67
  have hty : ∀ y ∈ rowOf T, ∃ U, U ≠ 5 ∧ Ty w7 y U := fun y hy => ⟨_, by decide, row_ty h7.own y hy⟩
  refine ⟨h7.R.keep hk h.pT fun y hy hm => ?_, by rw [List.flatMap_append]; simpa using ho, fun hm => ?_, fun z hz => ?_, ext_keep h7.E hk (base_le h7.own)⟩
  · have h1 := hss y hy
    have h2 := base_le h.own y hm
    omega
  · rcases hn _ hm with h1 | h1
    · exact h.pT h1
    · have := h7.plt; omega
  · rcases List.mem_append.1 hz with hz | hz
    · exact (h7.V z hz).keep hk hty
    · rw [List.mem_singleton.1 hz]
      exact (hx.ext h67).keep hk hty
theorem Wst.ws {w wr : World} {src : List Nat} {T : Option Addr} {k c' : Nat} {L : List WV} {b : List UInt8} {bd : Bool} (h : Wst w wr src T k c' L b bd) : L.length = k ∧ WsAt wr T L ∧ (∀ y ∈ rowOf T, w.heap.size ≤ y) ∧ ∀ x ∈ L, ∀ y ∈ rowOf x.A, w.heap.size ≤ y := by
  refine ⟨?_, ⟨rd_own h.own, fun x hx => (h.V x hx).ok⟩, base_le h.own, fun x hx y hy => ((h.V x hx).ty y hy).1⟩
  have := h.own.1
  rw [wcells_len] at this
  omega
theorem wst_none {w wr : World} (hx : Ext w wr) (b : List UInt8) {x : WV} (h : x.A = none) (hv : x.v = []) (hc : x.c = 0) (hk : x.k.size ≤ 255) : VOk wr w.heap.size x :=
  ⟨⟨by rw [hv]; exact Rd.nil_, fun _ => hc, by omega, by rw [hv]; simp⟩, by rw [h]; simp [rowOf]⟩
theorem vok_of {w0 w : World} {base c : Nat} {A : Option Addr} {v : List UInt8} (ho : w.ownsRow base 5 1 (.slice A v.length c) v.length (v.map bv)) (hb : w0.heap.size ≤ base) (k : ByteArray) (d : Bool) (hk : k.size ≤ 1099511627776) (hv : v.length ≤ 1099511627776) : VOk w w0.heap.size ⟨k, A, c, v, d⟩ := by
  refine ⟨⟨Rd.of_own ho, fun e => ?_, hk, hv⟩, fun y hy => ⟨Nat.le_trans hb (base_le ho y hy), row_ty ho y hy⟩⟩
  have e : A = none := e
  subst e
  rcases ho.2 with ⟨h0, _⟩ | ⟨g, cap, cur, h0, _⟩
  · injection h0
  · injection h0 with h1
    cases h1
theorem wr_next {w w8 : World} {src : List Nat} {T8 : Option Addr} {N k c8 : Nat} {L : List WV} {x : WV} {b0 b' : List UInt8} {bd bd' : Bool} {y : PW} (hW : Wst w w8 src T8 (k + 1) c8 (L ++ [x]) b' bd) (hS : WProg N b0 (k + 1) (L.map WV.pw ++ [y]) b' bd') (hx : x.pw = y) (hb : bd = bd') :
    Hid (Wst w w8 src T8 (k + 1) c8 (L ++ [x]) b' (false || bd')) ∧ Hid (WProg N b0 (k + 1) ((L ++ [x]).map WV.pw) b' bd') := by
  subst hx hb
  exact ⟨Lib.hid (by rw [Bool.false_or]; exact hW), Lib.hid (by rw [List.map_append]; exact hS)⟩
theorem rd_list' (w : World) (xs : List Value) (T : TypeId) {n : Nat} (h : w.heap.size = n) : Rd (w.alloc (.cells xs.toArray T)) (some ⟨n, 0, none⟩) xs := h ▸ rd_list w xs T
theorem toA_size (l : List UInt8) : (ByteArray.mk l.toArray).size = l.length := by show l.toArray.size = _; simp
set_option maxRecDepth 4000 in
set_option maxHeartbeats 6400000 in
theorem pwrites_any (A : Option Addr) (n c : Nat) (r : List UInt8) (w : World) (hl : r.length = n) (hr : Rd w A (r.map bv)) (hc : n ≤ c) (hm : c ≤ maxLen) :
    Calls Tryz.prog 56 #[.slice A n c] w (Wrote w r) := by
  refine calls_hid fun G hG => ?_
  obtain ⟨src, hsrc, hss⟩ : ∃ src : List Nat, (r = [] ∨ ∀ x ∈ rowOf A, x ∈ src) ∧ ∀ x ∈ src, x < w.heap.size := by
    rcases hq : r with _ | ⟨x, y⟩
    · exact ⟨[], .inl rfl, by simp⟩
    · rw [hq] at hr
      obtain ⟨ad, rfl, hlt⟩ := hr.some_ (by simp)
      exact ⟨[ad.block], .inr (by simp [rowOf]), by simpa using hlt⟩
  have hx0 := ext_alloc w (.cells #[.slice A n c, .bool false] 123)
  have hR0 : RdrAt (w.alloc (.cells #[.slice A n c, .bool false] 123)) w.heap.size src r false := ⟨A, c, by rw [hl]; exact Row.alloc w [.slice A n c, .bool false] _, by omega, hm, hr.ext hx0, hsrc⟩
  have hps : w.heap.size ∉ src := fun h => by have := hss _ h; omega
  have hN8 := pnum8 w.heap.size src r false _ hR0 hps
  have hb2 := tk2_bd (tkS 8 r).2.1
  have hN2 := fun w' bd (h' : RdrAt w' w.heap.size src (tkS 8 r).2.1 bd) => pnum2 w.heap.size src (tkS 8 r).2.1 bd w' h' hps
  have hbat := batD_S r
  generalize hcw : IntKind.i64.wrap ((num (tkS 8 r).1 : Nat) : Int) = cw at *
  go_enter Tryz.func56, Tryz.ntmps56
  go_wp2_with (first
    | (go_at_call 69; (with_reducible refine hN8.mono ?_); rintro e' w1 ⟨rfl, hR1, hK1⟩)
    | (go_at_call 69; (with_reducible refine (hN2 _ _ hR1).mono ?_); rintro e' w2 ⟨rfl, hR2, hK2⟩))
  have hE2 : Ext w w2 := ext_keep (ext_keep hx0 hK1 (by simp)) hK2 (by simp)
  have hplt2 : w.heap.size < w2.heap.size := by have h1 := hK1.size; have h2 := hK2.size; simp at h1; omega
  have hgo : ∀ T cT L b bad wr k, WProg (num (tkS 2 (tkS 8 r).2.1).1) (tkS 2 (tkS 8 r).2.1).2.1 k (L.map WV.pw) b bad → bad = false → k = num (tkS 2 (tkS 8 r).2.1).1 → ((false || (tkS 8 r).2.2) || (tkS 2 (tkS 8 r).2.1).2.2) = false → Ext w wr → WsAt wr T L → (∀ y ∈ rowOf T, w.heap.size ≤ y) → (∀ x ∈ L, ∀ y ∈ rowOf x.A, w.heap.size ≤ y) →
      G (.returned (.tuple #[.int .i64 cw, .slice T L.length cT, .bool (decide (b = [] ∧ 1 ≤ k ∧ k ≤ 4096))])) wr := fun T cT L b bad wr k hP hbd hk hf hE hW hT hx => by
    subst hbd hk
    refine hG.out _ _ ⟨hE, ?_⟩
    rw [hbat]
    have hf' : ((tkS 8 r).2.2 || (tkS 2 (tkS 8 r).2.1).2.2) = false := by simpa using hf
    rw [hf', hP.done]
    simp only [Bool.false_eq_true, if_false, Option.bind_some]
    by_cases hq : b = [] ∧ 1 ≤ num (tkS 2 (tkS 8 r).2.1).1 ∧ num (tkS 2 (tkS 8 r).2.1).1 ≤ 4096
    · rw [if_pos hq, decide_eq_true hq]
      exact .inl ⟨_, rfl, T, cT, L, rfl, by rw [hcw], hW, hT, hx⟩
    · rw [if_neg hq, decide_eq_false hq]
      exact .inr ⟨rfl, _, _, rfl⟩
  have hgb : ∀ v L b bad wr k, WProg (num (tkS 2 (tkS 8 r).2.1).1) (tkS 2 (tkS 8 r).2.1).2.1 k L b bad → (bad = true ∨ ((false || (tkS 8 r).2.2) || (tkS 2 (tkS 8 r).2.1).2.2) = true) → Ext w wr →
      G (.returned (.tuple #[.int .i64 cw, v, .bool false])) wr := fun v L b bad wr k hP hbd hE => by
    refine hG.out _ _ ⟨hE, .inr ⟨?_, _, _, rfl⟩⟩
    rw [hbat]
    rcases hbd with rfl | hbd
    · have h2 := hP.2
      simp only [if_true] at h2
      rw [h2]
      split <;> rfl
    · rw [if_pos (by simpa using hbd)]
  replace hgo := Lib.hid hgo
  replace hgb := Lib.hid hgb
  have hP0 := WProg.start (num (tkS 2 (tkS 8 r).2.1).1) (tkS 2 (tkS 8 r).2.1).2.1
  clear hN8 hN2 hbat hG hR1 hR0 hK1 hK2 hcw
  generalize ((false || (tkS 8 r).2.2) || (tkS 2 (tkS 8 r).2.1).2.2) = bd0 at *
  generalize (tkS 2 (tkS 8 r).2.1).2.1 = b0 at *
  generalize num (tkS 2 (tkS 8 r).2.1).1 = N at *
  go_loopw [8, 9, 20, 34, 39] (fun t _ i _ _ wr => ∃ (k c' : Nat) (T : Option Addr) (L : List WV) (b : List UInt8) (bad : Bool), k ≤ N ∧ i = .int .i64 k ∧ t = .slice T k c' ∧ Hid (Wst w wr src T k c' L b (bd0 || bad)) ∧ Hid (WProg N b0 k (L.map WV.pw) b bad)) (fun _ _ i _ _ _ => N - (intOf i).toNat)
  case atStart => exact ⟨0, 0, none, [], b0, false, Nat.zero_le _, rfl, rfl, Lib.hid ⟨by rw [Bool.or_false]; exact hR2, World.ownsRow_nil _ _ _ _, by simp [rowOf], by simp, hE2⟩, Lib.hid hP0⟩
  case round =>
    obtain ⟨k, c', T, L, b, bad, hk, rfl, rfl, hW, hP⟩ := hrel
    have c1 := hW.out.R.flag.1
    by_cases hlt : k < N
    · rcases hbad : bd0 || bad with _ | _
      · rw [hbad] at c1
        obtain ⟨hbd0, hbad'⟩ : bd0 = false ∧ bad = false := by simpa using hbad
        subst hbad' hbd0
        have hplt := hW.out.plt
        have hKey := pkey_any w.heap.size src b false wr hW.out.R hps
        have hstep := Lib.hid (hP.out.step hlt)
        have hkl := keys_len b
        have hkk := toA_size (keyS b).1
        by_cases hq : num (tkS 1 (keyS b).2.1).1 = 0
        · have he := Lib.hid (wrtS0 hq)
          have q0 : (((num (tkS 1 (keyS b).2.1).1 : Nat) : Int) == 0) = true := by rw [hq]; rfl
          replace hq := Lib.hid hq
          go_wp2_with (first
            | (go_at_call 70; (with_reducible refine hKey.mono ?_); rintro e' w3 ⟨rfl, hR3, hK3⟩; have hW3 := hW.out.rdr hK3 hR3; have hW3a := hW3.ext (ext_alloc w3 (.cells #[.string ⟨(keyS b).1.toArray⟩, .slice none 0 0, .bool false] 45)); have hN1 := pnum1 w.heap.size src _ _ _ hW3a.R hps; have hB3 : Row _ w3.heap.size 45 [.string ⟨(keyS b).1.toArray⟩, .slice none 0 0, .bool false] := Row.alloc w3 _ _; have hp3 := Nat.lt_of_lt_of_le hplt hK3.size; have hbT : w3.heap.size ∉ rowOf T := (fun hm => by have h1 := row_lt hW.out.own _ hm; have h2 := hK3.size; omega); replace hR3 := Lib.hid hR3; replace hW3 := Lib.hid hW3; replace hW3a := Lib.hid hW3a)
            | (go_at_call 69; (with_reducible refine hN1.mono ?_); rintro e' w4 ⟨rfl, hR4, hK4⟩; have hW4 := hW3a.out.rdr hK4 hR4; have hV := pval_any w.heap.size src _ _ _ hW4.R hps; have hB4 := hB3.keep hK4 (fun hm => by have := List.mem_singleton.1 hm; omega); replace hW4 := Lib.hid hW4)
            | (go_at_call 71; (with_reducible refine hV.mono ?_); rintro e' w5 ⟨A5, c5, rfl, ho5, hc5, hm5, hR5, hK5⟩; have hW5 := hW4.out.rdr hK5 hR5; have hB5 := hB4.keep hK5 (fun hm => by have := List.mem_singleton.1 hm; omega); have g0 : w5.cell? ⟨w3.heap.size, 0, none⟩ = some (.string ⟨(keyS b).1.toArray⟩) := hB5.cell (i := 0) (by simp); have g1 : w5.cell? ⟨w3.heap.size, 1, none⟩ = some (.slice none 0 0) := hB5.cell (i := 1) (by simp); have g2 : w5.cell? ⟨w3.heap.size, 2, none⟩ = some (.bool false) := hB5.cell (i := 2) (by simp); have gf := hB5.fro 1; have hW6 := hW5.box (i := 1) (v := .slice A5 (valS (tkS 1 (keyS b).2.1).2.1).1.length c5) hss hB5 hp3 hbT)
            | (at_builtin; refine wpList_appfam rfl (.tmp 42) (.tmp 44) 32 45 3 48 rfl writeRow w.heap.size T k c' _ rfl (hW6.ext (ext_alloc _ _)).own ⟨w5.heap.size, 0, none⟩ 1 1 [.string ⟨(keyS b).1.toArray⟩, .slice A5 (valS (tkS 1 (keyS b).2.1).2.1).1.length c5, .bool false] rfl rfl (rd_list' _ _ _ (by simp)) (by intro u hu; simp at hu; rcases hu with rfl | rfl | rfl <;> rfl) (by unfold maxLen; omega) (by omega) (Nat.le_of_lt (hW6.ext (ext_alloc _ _)).plt) ?_; intro T8 c8 w8 ho8 hk8 hn8))
          have hfin := wr_next (b' := (wrtS b).2.1) (by
            have hV := (vok_of ho5 (Nat.le_trans (Nat.le_of_lt (Nat.lt_of_lt_of_le hp3 (ext_alloc w3 (.cells #[.string ⟨(keyS b).1.toArray⟩, .slice none 0 0, .bool false] 45)).size)) hK4.size) ⟨(keyS b).1.toArray⟩ false (by omega) (by have := vals_len (tkS 1 (keyS b).2.1).2.1; omega)).keep (Keep.setCell w5 ⟨w3.heap.size, 1, none⟩ (.slice A5 (valS (tkS 1 (keyS b).2.1).2.1).1.length c5)) (fun y hy => ⟨45, by decide, by have := List.mem_singleton.1 hy; subst this; exact Ty.of_row hB5⟩)
            have := hW6.push hss hV (ext_alloc _ _) hk8 ho8 hn8
            rw [he.out]; exact this) hstep.out (by rw [he.out]; simp [WV.pw]) (by first | (rw [he.out]; done) | (rw [he.out]; simp))
          go_roundw
          case rel => exact ⟨k + 1, c8, T8, L ++ [⟨⟨(keyS b).1.toArray⟩, A5, c5, (valS (tkS 1 (keyS b).2.1).2.1).1, false⟩], (wrtS b).2.1, (wrtS b).2.2, hlt, by go_num, rfl, hfin.1, hfin.2⟩
          case measure => simp [intOf]; omega
        · have q0 : (((num (tkS 1 (keyS b).2.1).1 : Nat) : Int) == 0) = false := beq_false_of_ne (by omega)
          by_cases hq1 : num (tkS 1 (keyS b).2.1).1 = 1
          · have he := Lib.hid (wrtS1 hq1)
            have q1 : (((num (tkS 1 (keyS b).2.1).1 : Nat) : Int) == 1) = true := by rw [hq1]; rfl
            replace hq := Lib.hid hq
            replace hq1 := Lib.hid hq1
            go_wp2_with (first
              | (go_at_call 70; (with_reducible refine hKey.mono ?_); rintro e' w3 ⟨rfl, hR3, hK3⟩; have hW3 := hW.out.rdr hK3 hR3; have hW3a := hW3.ext (ext_alloc w3 (.cells #[.string ⟨(keyS b).1.toArray⟩, .slice none 0 0, .bool false] 45)); have hN1 := pnum1 w.heap.size src _ _ _ hW3a.R hps; have hB3 : Row _ w3.heap.size 45 [.string ⟨(keyS b).1.toArray⟩, .slice none 0 0, .bool false] := Row.alloc w3 _ _; have hp3 := Nat.lt_of_lt_of_le hplt hK3.size; have hbT : w3.heap.size ∉ rowOf T := (fun hm => by have h1 := row_lt hW.out.own _ hm; have h2 := hK3.size; omega); replace hR3 := Lib.hid hR3; replace hW3 := Lib.hid hW3; replace hW3a := Lib.hid hW3a)
              | (go_at_call 69; (with_reducible refine hN1.mono ?_); rintro e' w4 ⟨rfl, hR4, hK4⟩; have hW4 := hW3a.out.rdr hK4 hR4; have hB4 := hB3.keep hK4 (fun hm => by have := List.mem_singleton.1 hm; omega); have g0 : w4.cell? ⟨w3.heap.size, 0, none⟩ = some (.string ⟨(keyS b).1.toArray⟩) := hB4.cell (i := 0) (by simp); have g1 : w4.cell? ⟨w3.heap.size, 1, none⟩ = some (.slice none 0 0) := hB4.cell (i := 1) (by simp); have g2 : w4.cell? ⟨w3.heap.size, 2, none⟩ = some (.bool false) := hB4.cell (i := 2) (by simp); have gf := hB4.fro 2; have hW6 := hW4.box (i := 2) (v := .bool true) hss hB4 hp3 hbT)
              | (at_builtin; refine wpList_appfam rfl (.tmp 42) (.tmp 44) 32 45 3 48 rfl writeRow w.heap.size T k c' _ rfl (hW6.ext (ext_alloc _ _)).own ⟨w4.heap.size, 0, none⟩ 1 1 [.string ⟨(keyS b).1.toArray⟩, .slice none 0 0, .bool true] rfl rfl (rd_list' _ _ _ (by simp)) (by intro u hu; simp at hu; rcases hu with rfl | rfl | rfl <;> rfl) (by unfold maxLen; omega) (by omega) (Nat.le_of_lt (hW6.ext (ext_alloc _ _)).plt) ?_; intro T8 c8 w8 ho8 hk8 hn8))
            have hfin := wr_next (b' := (wrtS b).2.1) (by
              have := hW6.push (x := ⟨⟨(keyS b).1.toArray⟩, none, 0, [], true⟩) hss (wst_none hW6.E [] rfl rfl rfl (by show (ByteArray.mk (keyS b).1.toArray).size ≤ 255; omega)) (ext_alloc _ _) hk8 ho8 hn8
              rw [he.out]; exact this) hstep.out (by rw [he.out]; simp [WV.pw]) (by first | (rw [he.out]; done) | (rw [he.out]; simp))
            go_roundw
            case rel => exact ⟨k + 1, c8, T8, L ++ [⟨⟨(keyS b).1.toArray⟩, none, 0, [], true⟩], (wrtS b).2.1, (wrtS b).2.2, hlt, by go_num, rfl, hfin.1, hfin.2⟩
            case measure => simp [intOf]; omega
          · have he := Lib.hid (wrtS2 hq hq1)
            have q1 : (((num (tkS 1 (keyS b).2.1).1 : Nat) : Int) == 1) = false := beq_false_of_ne (by omega)
            replace hq := Lib.hid hq
            replace hq1 := Lib.hid hq1
            go_wp2_with (first
              | (go_at_call 70; (with_reducible refine hKey.mono ?_); rintro e' w3 ⟨rfl, hR3, hK3⟩; have hW3 := hW.out.rdr hK3 hR3; have hW3a := hW3.ext (ext_alloc w3 (.cells #[.string ⟨(keyS b).1.toArray⟩, .slice none 0 0, .bool false] 45)); have hN1 := pnum1 w.heap.size src _ _ _ hW3a.R hps; have hB3 : Row _ w3.heap.size 45 [.string ⟨(keyS b).1.toArray⟩, .slice none 0 0, .bool false] := Row.alloc w3 _ _; have hp3 := Nat.lt_of_lt_of_le hplt hK3.size; have hbT : w3.heap.size ∉ rowOf T := (fun hm => by have h1 := row_lt hW.out.own _ hm; have h2 := hK3.size; omega); replace hR3 := Lib.hid hR3; replace hW3 := Lib.hid hW3; replace hW3a := Lib.hid hW3a)
              | (go_at_call 69; (with_reducible refine hN1.mono ?_); rintro e' w4 ⟨rfl, hR4, hK4⟩; have hW4 := hW3a.out.rdr hK4 hR4; have hB4 := hB3.keep hK4 (fun hm => by have := List.mem_singleton.1 hm; omega); have g0 : w4.cell? ⟨w3.heap.size, 0, none⟩ = some (.string ⟨(keyS b).1.toArray⟩) := hB4.cell (i := 0) (by simp); have g1 : w4.cell? ⟨w3.heap.size, 1, none⟩ = some (.slice none 0 0) := hB4.cell (i := 1) (by simp); have g2 : w4.cell? ⟨w3.heap.size, 2, none⟩ = some (.bool false) := hB4.cell (i := 2) (by simp); have gf := hW4.R.flag.2; have gg := hW4.R.flag.1; have hne : w3.heap.size ≠ w.heap.size := (by omega); have hW6 := hW4.rdr (hW4.R.mark hps).2 (hW4.R.mark hps).1)
              | (at_builtin; refine wpList_appfam rfl (.tmp 42) (.tmp 44) 32 45 3 48 rfl writeRow w.heap.size T k c' _ rfl (hW6.ext (ext_alloc _ _)).own ⟨w4.heap.size, 0, none⟩ 1 1 [.string ⟨(keyS b).1.toArray⟩, .slice none 0 0, .bool false] rfl rfl (rd_list' _ _ _ (by simp)) (by intro u hu; simp at hu; rcases hu with rfl | rfl | rfl <;> rfl) (by unfold maxLen; omega) (by omega) (Nat.le_of_lt (hW6.ext (ext_alloc _ _)).plt) ?_; intro T8 c8 w8 ho8 hk8 hn8))
            have hfin := wr_next (b' := (wrtS b).2.1) (by
              have := hW6.push (x := ⟨⟨(keyS b).1.toArray⟩, none, 0, [], false⟩) hss (wst_none hW6.E [] rfl rfl rfl (by show (ByteArray.mk (keyS b).1.toArray).size ≤ 255; omega)) (ext_alloc _ _) hk8 ho8 hn8
              rw [he.out]; exact this) hstep.out (by rw [he.out]; simp [WV.pw]) (by first | (rw [he.out]; done) | (rw [he.out]; simp))
            go_roundw
            case rel => exact ⟨k + 1, c8, T8, L ++ [⟨⟨(keyS b).1.toArray⟩, none, 0, [], false⟩], (wrtS b).2.1, (wrtS b).2.2, hlt, by go_num, rfl, hfin.1, hfin.2⟩
            case measure => simp [intOf]; omega
      · rw [hbad] at c1
        go_wp2
        go_ret3
        have hW' := hW.out
        exact hgb.out _ _ b bad wr k hP.out (by revert hbad; cases bd0 <;> cases bad <;> simp) hW'.E
    · obtain rfl : k = N := by omega
      rcases hbad : bd0 || bad with _ | _
      · rw [hbad] at c1
        obtain ⟨A0, c0, hrow, _⟩ := hW.out.R.row
        have e0 : wr.cell? ⟨w.heap.size, 0, none⟩ = some (.slice A0 b.length c0) := hrow.cell (i := 0) (by simp)
        obtain ⟨hbd0, hbad'⟩ : bd0 = false ∧ bad = false := by simpa using hbad
        obtain ⟨w1, w2, w3, w4⟩ := hW.out.ws
        have hgg := hgo.out T c' L b bad wr k hP.out hbad' rfl hbd0 hW.out.E w2 w3 w4
        rw [w1] at hgg
        have e1 : decide (b = [] ∧ 1 ≤ k ∧ k ≤ 4096) = (((b.length : Int) == 0) && (decide ((k : Int) ≥ 1) && decide ((k : Int) ≤ 4096))) := by
          rcases b with _ | ⟨x, y⟩
          · simp
            by_cases h1 : 1 ≤ k <;> by_cases h2 : k ≤ 4096 <;> simp [h1, h2] <;> omega
          · simp
            omega
        rw [e1] at hgg
        replace hgg := Lib.hid hgg
        clear e1 w2 w3 w4 hrow
        rcases hq0 : ((b.length : Int) == 0) with _ | _ <;> rcases hq1 : decide ((k : Int) ≥ 1) with _ | _ <;> rcases hq2 : decide ((k : Int) ≤ 4096) with _ | _
        all_goals
          rw [hq0, hq1, hq2] at hgg
          go_wp2
          go_ret3
          exact hgg.out
      · rw [hbad] at c1
        go_wp2
        go_ret3
        exact hgb.out _ _ b bad wr k hP.out (by revert hbad; cases bd0 <;> cases bad <;> simp) hW.out.E
end Go.Proofs.YtjnbbfhoegeppaaGreatDoor
