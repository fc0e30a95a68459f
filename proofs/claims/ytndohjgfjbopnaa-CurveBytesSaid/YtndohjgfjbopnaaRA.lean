import Derived.Test.YtndohjgfjbopnaaRN
import Derived.Deep.AppendLies
section
/-
  Walks of the document's answer: numbers cut and compared.
-/
set_option linter.unusedSimpArgs false
set_option linter.unusedVariables false
namespace Go.Cv.Dig
open Go.RowKit
/-- Without the noughts at the end: what is left is the same number. -/
theorem take_val {l : List Nat} {m : Nat} (h : ∀ j, m ≤ j → dg l j = 0) : dval (l.take m) = dval l := by
  have h2 : dval (l.drop m) = 0 := dval_zeros fun d hd => by
    obtain ⟨i, hi, rfl⟩ := List.mem_iff_getElem.1 hd
    have h3 := h (m + i) (by omega)
    rw [List.length_drop] at hi
    rw [dg_lt (by omega)] at h3
    rw [List.getElem_drop]
    exact h3
  have e : dval l = dval (l.take m ++ l.drop m) := by rw [List.take_append_drop]
  rw [e, dval_append, h2]
  omega
theorem take_canon {l : List Nat} {m : Nat} (hs : Small l) (hm : m ≤ l.length) (h : m = 0 ∨ dg l (m - 1) ≠ 0) : Canon (l.take m) := by
  rcases h with rfl | h
  · simp [Canon.nil_]
  · rcases m with _ | k
    · simp [Canon.nil_]
    · refine ⟨hs.take _, ?_⟩
      rw [List.getLast?_take]
      simp only [Nat.add_one_ne_zero, if_false, Nat.add_sub_cancel] at h ⊢
      rw [List.getElem?_eq_getElem (by omega)]
      rw [dg_lt (by omega)] at h
      simpa using h
end Go.Cv.Dig
namespace Go.Proofs.Ytndohjgfjbopnaa
open Go.RowKit Go.Cv Go.Cv.Dig

set_option maxHeartbeats 800000 in
theorem cut_any (A : Option Addr) (n cap : Nat) (l : List Nat) (w : World) (hn : l.length = n) (hs : Small l) (hr : Rd w A (l.map iv)) (hm : n ≤ 140737488355328) (hcap : n ≤ cap) :
    Calls Try.prog 80 #[.slice A n cap] w fun e w' => ∃ m, e = .returned (.slice A m cap) ∧ m ≤ n ∧ dval (l.take m) = dval l ∧ Canon (l.take m) ∧ w' = w := by
  subst hn
  have HS := Lib.hid hs
  clear hs
  go_enter Try.func80, Try.ntmps80
  go_wp2
  go_loop [3] (fun t => ∃ m : Nat, m ≤ l.length ∧ t = .int .i64 m ∧ ∀ j, m ≤ j → dg l j = 0) (fun t => (intOf t).toNat)
  case atStart => exact ⟨_, Nat.le_refl _, rfl, fun j h => dg_ge h⟩
  case round =>
    obtain ⟨m, hml, rfl, hz⟩ := hrel
    have HZ := Lib.hid hz
    clear hz
    rcases m with _ | k
    · go_wp2
      go_ret
      exact ⟨0, by simp [go_sem], Nat.zero_le _, take_val HZ.out, take_canon HS.out (Nat.zero_le _) (.inl rfl), rfl⟩
    · obtain ⟨ad, rfl, hc⟩ := hr.at_ (k := k) (by rw [List.length_map]; omega)
      rw [List.getElem_map] at hc
      have HD : Hid (dg l k = l[k]) := Lib.hid (dg_lt (by omega))
      have hk : ((k + 1 : Nat) : Int) - 1 = (k : Int) := by omega
      generalize l[k] = d at *
      by_cases h0 : d = 0
      · subst h0
        go_wp2
        go_round
        case rel => exact ⟨k, by omega, by go_num, fun j hj => by
          by_cases hjk : j = k
          · subst hjk; exact HD.out
          · exact HZ.out j (by omega)⟩
        case measure => simp [intOf]
      · have h0' : ¬ ((d : Int) = 0) := by omega
        go_wp2
        go_ret
        exact ⟨k + 1, by simp [go_sem], hml, take_val HZ.out, take_canon HS.out hml (.inr (by show dg l k ≠ 0; rw [HD.out]; exact h0)), rfl⟩

/-- What a comparison says. -/
def cmpIs (x y : Nat) (c : Int) : Prop := (x < y ∧ c = -1) ∨ (x = y ∧ c = 0) ∨ (y < x ∧ c = 1)
set_option maxHeartbeats 1600000 in
theorem cmp_any (A B : Option Addr) (n1 n2 c1 c2 : Nat) (l m : List Nat) (w : World) (hn1 : l.length = n1) (hn2 : m.length = n2) (hl : Canon l) (hm : Canon m)
    (hr1 : Rd w A (l.map iv)) (hr2 : Rd w B (m.map iv)) (hb1 : n1 ≤ 140737488355328) (hb2 : n2 ≤ 140737488355328) :
    Calls Try.prog 36 #[.slice A n1 c1, .slice B n2 c2] w fun e w' => ∃ c, e = .returned (.int .i64 c) ∧ cmpIs (dval l) (dval m) c ∧ Ext w w' := by
  have HL := Lib.hid hl
  have HM := Lib.hid hm
  clear hl hm
  by_cases hlen : n1 = n2
  · subst hlen
    have HN1 := Lib.hid hn1
    have HN2 := Lib.hid hn2
    clear hn1 hn2
    go_enter Try.func36, Try.ntmps36
    go_wp2
    go_loopw [5] (fun t wr => ∃ k : Nat, k ≤ n1 ∧ t = .int .i64 ((k : Int) - 1) ∧ Ext w wr ∧ hi l k = hi m k) (fun t _ => (intOf t + 1).toNat)
    case atStart => exact ⟨n1, Nat.le_refl _, rfl, Ext.refl _, by unfold hi; rw [List.drop_of_length_le (Nat.le_of_eq HN1.out), List.drop_of_length_le (Nat.le_of_eq HN2.out)]⟩
    case round =>
      obtain ⟨k, hk, rfl, hE, hh⟩ := hrel
      obtain ⟨x, rfl⟩ := grw_of_ext hE
      clear hE
      have HH := Lib.hid hh
      clear hh
      rcases k with _ | j
      · go_wp2
        go_ret
        refine ⟨0, rfl, .inr (.inl ⟨?_, rfl⟩), grw_ext _ _⟩
        have h := HH.out
        unfold hi at h
        rwa [List.drop_zero, List.drop_zero] at h
      · obtain ⟨ad, rfl, hc⟩ := (hr1.ext (grw_ext w x)).at_ (k := j) (by rw [List.length_map]; have := HN1.out; have := HN2.out; omega)
        obtain ⟨bd, rfl, hd⟩ := (hr2.ext (grw_ext w x)).at_ (k := j) (by rw [List.length_map]; have := HN1.out; have := HN2.out; omega)
        rw [List.getElem_map] at hc hd
        have e : ((j + 1 : Nat) : Int) - 1 = (j : Int) := by omega
        rw [e]
        have hj1 : j < l.length := by have := HN1.out; omega
        have hj2 : j < m.length := by have := HN2.out; omega
        have hjn : j < n1 := by omega
        have D1 : Hid (dg l j = l[j]) := Lib.hid (dg_lt hj1)
        have D2 : Hid (dg m j = m[j]) := Lib.hid (dg_lt hj2)
        generalize l[j] = d1 at *
        generalize m[j] = d2 at *
        replace hj1 := Lib.hid hj1
        replace hj2 := Lib.hid hj2
        by_cases h1 : d1 < d2
        · have h1' : (d1 : Int) < (d2 : Int) := by omega
          go_wp2
          go_quiet (fail)
          go_wp2
          go_ret
          refine ⟨-1, rfl, .inl ⟨?_, rfl⟩, by (repeat (first | exact grw_ext _ _ | exact Ext.refl _ | refine Ext.drewN ?_ _ | refine Ext.trans ?_ (ext_drew _)))⟩
          exact lt_of_hi HL.out.1 hj1.out hj2.out HH.out (by rw [D1.out, D2.out]; exact h1)
        · have h1' : ¬ (d1 : Int) < (d2 : Int) := by omega
          by_cases h2 : d2 < d1
          · have h2' : (d2 : Int) < (d1 : Int) := by omega
            go_wp2
            go_quiet (fail)
            go_wp2
            go_quiet (fail)
            go_wp2
            go_ret
            refine ⟨1, rfl, .inr (.inr ⟨?_, rfl⟩), by (repeat (first | exact grw_ext _ _ | exact Ext.refl _ | refine Ext.drewN ?_ _ | refine Ext.trans ?_ (ext_drew _)))⟩
            exact lt_of_hi HM.out.1 hj2.out hj1.out HH.out.symm (by rw [D1.out, D2.out]; exact h2)
          · have h2' : ¬ (d2 : Int) < (d1 : Int) := by omega
            have he : d1 = d2 := by omega
            go_wp2
            go_quiet (fail)
            go_wp2
            go_quiet (fail)
            go_wp2
            refine ⟨?_, by simp [intOf]⟩
            exact ⟨j, by omega, rfl, by (repeat (first | exact grw_ext _ _ | exact Ext.refl _ | refine Ext.drewN ?_ _ | refine Ext.trans ?_ (ext_drew _))), hi_eq HH.out hj1.out hj2.out (by rw [D1.out, D2.out, he])⟩
  · subst hn1 hn2
    by_cases hlt : l.length < m.length
    · go_enter Try.func36, Try.ntmps36
      go_wp2
      go_ret
      exact ⟨-1, rfl, .inl ⟨Canon.len_lt HL.out HM.out hlt, rfl⟩, Ext.refl _⟩
    · have hgt : m.length < l.length := by omega
      go_enter Try.func36, Try.ntmps36
      go_wp2
      go_ret
      exact ⟨1, rfl, .inr (.inr ⟨Canon.len_lt HM.out HL.out hgt, rfl⟩), Ext.refl _⟩
end Go.Proofs.Ytndohjgfjbopnaa
end
section
/-
  Walks of the document's answer: sums of numbers.
-/
set_option linter.unusedSimpArgs false
set_option linter.unusedVariables false
namespace Go.Cv.Dig
open Go.RowKit
/-- One digit of a sum. -/
theorem plus_step {D P i c x y X Y : Nat} (h : D + P * c = X + Y) :
    D + P * ((x + y + c) % 16777216) + P * 16777216 * ((x + y + c) / 16777216) = X + P * x + (Y + P * y) := by
  have e := Nat.mod_add_div (x + y + c) 16777216
  have e2 : P * ((x + y + c) % 16777216 + 16777216 * ((x + y + c) / 16777216)) = P * (x + y + c) := by rw [e]
  rw [Nat.mul_add, ← Nat.mul_assoc] at e2
  rw [Nat.mul_add, Nat.mul_add] at e2
  omega
/-- What stands behind i digits of a sum. -/
structure PlusInv (a b ds : List Nat) (c i : Nat) : Prop where
  len : ds.length = i
  small : Small ds
  carry : c ≤ 1
  val : dval ds + 16777216 ^ i * c = lo a i + lo b i
  far : c ≠ 0 → i ≤ a.length ∨ i ≤ b.length
  le : i ≤ a.length + b.length + 1
  last : c = 0 → a.length ≤ i → b.length ≤ i → ds.getLast? ≠ some 0
theorem PlusInv.start (a b : List Nat) : PlusInv a b [] 0 0 := ⟨rfl, Small.nil_, by omega, by simp [dval, lo], fun h => absurd rfl h, by omega, fun _ _ _ => by simp⟩
theorem Canon.top {l : List Nat} (h : Canon l) {i : Nat} (hi : i < l.length) (ht : l.length ≤ i + 1) : dg l i ≠ 0 := by
  have h2 := h.2
  have e : i = l.length - 1 := by omega
  rw [List.getLast?_eq_getElem?, ← e, List.getElem?_eq_getElem hi] at h2
  rw [dg_lt hi]
  intro h0
  exact h2 (by rw [h0])
theorem PlusInv.step {a b ds : List Nat} {c i : Nat} (ha : Canon a) (hb : Canon b) (h : PlusInv a b ds c i) (hg : i < a.length ∨ i < b.length ∨ 0 < c) :
    PlusInv a b (ds ++ [(dg a i + dg b i + c) % 16777216]) ((dg a i + dg b i + c) / 16777216) (i + 1) := by
  have h1 := ha.1.dg i
  have h2 := hb.1.dg i
  have hc := h.carry
  refine ⟨by simp [h.len], h.small.snoc (Nat.mod_lt _ (by decide)), by omega, ?_, fun h0 => ?_, ?_, fun h0 hla hlb => ?_⟩
  · rw [dval_snoc, h.len, lo_succ, lo_succ, Nat.pow_succ]
    exact plus_step (i := i) h.val
  · by_cases hia : i < a.length
    · exact .inl hia
    · by_cases hib : i < b.length
      · exact .inr hib
      · rw [dg_ge (by omega), dg_ge (by omega)] at h0
        omega
  · have := h.far
    by_cases hc0 : c = 0
    · omega
    · have := this hc0
      omega
  · rw [List.getLast?_append, List.getLast?_singleton]
    simp only [Option.some_or]
    intro he
    have he := Option.some.inj he
    have hz : dg a i + dg b i + c = 0 := by omega
    rcases hg with hg | hg | hg
    · have := ha.top hg hla; omega
    · have := hb.top hg hlb; omega
    · omega
theorem PlusInv.done {a b ds : List Nat} {i : Nat} (h : PlusInv a b ds 0 i) (hla : a.length ≤ i) (hlb : b.length ≤ i) : Canon ds ∧ dval ds = dval a + dval b := by
  refine ⟨⟨h.small, h.last rfl hla hlb⟩, ?_⟩
  have := h.val
  rw [lo_all hla, lo_all hlb] at this
  omega
end Go.Cv.Dig
namespace Go.Proofs.Ytndohjgfjbopnaa
open Go.RowKit Go.Cv Go.Cv.Dig

/-- A number that came back: its digits, none of them nought at the end, at most N. -/
def Num (w : World) (v : Value) (x N : Nat) : Prop := ∃ A n c l, v = .slice A n c ∧ l.length = n ∧ n ≤ c ∧ Rd w A (l.map iv) ∧ Canon l ∧ dval l = x ∧ n ≤ N
theorem Num.mk {w : World} {x N : Nat} {A : Option Addr} {n c : Nat} {l : List Nat} (hn : l.length = n) (hc : n ≤ c) (hr : Rd w A (l.map iv)) (hl : Canon l) (hx : dval l = x) (hN : n ≤ N) : Num w (.slice A n c) x N :=
  ⟨A, n, c, l, rfl, hn, hc, hr, hl, hx, hN⟩
theorem Num.ext {w w' : World} {v : Value} {x N : Nat} (h : Num w v x N) (hx : Ext w w') : Num w' v x N := by
  obtain ⟨A, n, c, l, rfl, hn, hc, hr, h⟩ := h
  exact ⟨A, n, c, l, rfl, hn, hc, hr.ext hx, h⟩
theorem introw : RowT Try.prog 28 3 8 := RowT.of (z := .int .i64 0) Try.underlying28 (by kernel_rfl) rfl

set_option maxHeartbeats 2000000 in
theorem plus_any (A B : Option Addr) (n1 n2 c1 c2 : Nat) (l m : List Nat) (w : World) (hn1 : l.length = n1) (hn2 : m.length = n2) (hl : Canon l) (hm : Canon m)
    (hr1 : Rd w A (l.map iv)) (hr2 : Rd w B (m.map iv)) (hb1 : n1 ≤ 1000000) (hb2 : n2 ≤ 1000000) :
    Calls Try.prog 65 #[.slice A n1 c1, .slice B n2 c2] w fun e w' => ∃ v, e = .returned v ∧ Num w' v (dval l + dval m) (n1 + n2 + 1) ∧ Ext w w' := by
  have HN1 := Lib.hid hn1
  have HN2 := Lib.hid hn2
  have HL := Lib.hid hl
  have HM := Lib.hid hm
  clear hl hm
  go_enter Try.func65, Try.ntmps65
  go_wp2
  go_loopw [5, 6, 7, 8] (fun v t6 t7 _ wr => ∃ (i c : Nat) (ds : List Nat), t7 = .int .i64 i ∧ t6 = .int .i64 c ∧ wr.ownsRow w.heap.size 3 1 v i (ds.map iv) ∧ Ext w wr ∧ Hid (PlusInv l m ds c i) ∧ i ≤ n1 + n2 + 1 ∧ c ≤ 1) (fun _ _ t7 _ _ => n1 + n2 + 2 - (intOf t7).toNat)
  case atStart => exact ⟨0, 0, [], rfl, rfl, World.ownsRow_nil w _ _ 1, Ext.refl _, Lib.hid (PlusInv.start l m), by omega, by omega⟩
  case round =>
    obtain ⟨i, c, ds, rfl, rfl, ho, hE, HP, hi, hc⟩ := hrel
    have hx := HL.out.1.dg i
    have hy := HM.out.1.dg i
    obtain ⟨C, cc, rfl, hnc, hcm, hrd, hlen⟩ := own_form ho
    have HS : Hid ((i < l.length ∨ i < m.length ∨ 0 < c) → PlusInv l m (ds ++ [(dg l i + dg m i + c) % 16777216]) ((dg l i + dg m i + c) / 16777216) (i + 1)) := Lib.hid fun hg => HP.out.step HL.out HM.out hg
    rcases (by omega : i < n1 ∨ (n1 ≤ i ∧ i < n2) ∨ (n1 ≤ i ∧ n2 ≤ i ∧ 0 < c) ∨ (n1 ≤ i ∧ n2 ≤ i ∧ c = 0)) with h | ⟨h0, h⟩ | ⟨h0, h1, h⟩ | ⟨h0, h1, rfl⟩
    · have k1 : (i : Int) < (n1 : Int) := by omega
      go_wp2_with (first
          | (go_at_call 61; with_reducible refine (digit_any A n1 c1 l i _ HN1.out (hr1.ext hE) (by omega) (by omega)).mono ?_; rintro e w' ⟨rfl, rfl⟩)
          | (go_at_call 61; with_reducible refine (digit_any B n2 c2 m i _ HN2.out (hr2.ext hE) (by omega) (by omega)).mono ?_; rintro e w' ⟨rfl, rfl⟩)
          | (at_builtin; refine wpList_app rfl (.tmp 34) (.tmp 37) 28 3 8 rfl introw w.heap.size _ i _ rfl (own_ext ho (ext_alloc _ _)) _ 1 1 [iv ((dg l i + dg m i + c) % 16777216)] rfl rfl (rd_new_one _ _ _) (one_map_iv [_]) (by simp [maxLen]; omega) (by omega) (hE.trans (ext_alloc _ _)).size ?_; intro A2 c2' w2 ho2 hc2 hm2 hr2' hE2 hg2; have hEn := hE2 w (hE.trans (ext_alloc _ _)) (Nat.le_refl _); clear hE2 hg2 hr2'))
      refine ⟨⟨i + 1, (dg l i + dg m i + c) / 16777216, ds ++ [(dg l i + dg m i + c) % 16777216], by go_num, rfl, by rw [List.map_append]; exact ho2, hEn, Lib.hid (HS.out (by rw [HN1.out, HN2.out]; omega)), by omega, by omega⟩, by simp [intOf]; omega⟩
    · have k1 : ¬ (i : Int) < (n1 : Int) := by omega
      have k2 : (i : Int) < (n2 : Int) := by omega
      go_wp2_with (first
          | (go_at_call 61; with_reducible refine (digit_any A n1 c1 l i _ HN1.out (hr1.ext hE) (by omega) (by omega)).mono ?_; rintro e w' ⟨rfl, rfl⟩)
          | (go_at_call 61; with_reducible refine (digit_any B n2 c2 m i _ HN2.out (hr2.ext hE) (by omega) (by omega)).mono ?_; rintro e w' ⟨rfl, rfl⟩)
          | (at_builtin; refine wpList_app rfl (.tmp 34) (.tmp 37) 28 3 8 rfl introw w.heap.size _ i _ rfl (own_ext ho (ext_alloc _ _)) _ 1 1 [iv ((dg l i + dg m i + c) % 16777216)] rfl rfl (rd_new_one _ _ _) (one_map_iv [_]) (by simp [maxLen]; omega) (by omega) (hE.trans (ext_alloc _ _)).size ?_; intro A2 c2' w2 ho2 hc2 hm2 hr2' hE2 hg2; have hEn := hE2 w (hE.trans (ext_alloc _ _)) (Nat.le_refl _); clear hE2 hg2 hr2'))
      refine ⟨⟨i + 1, (dg l i + dg m i + c) / 16777216, ds ++ [(dg l i + dg m i + c) % 16777216], by go_num, rfl, by rw [List.map_append]; exact ho2, hEn, Lib.hid (HS.out (by rw [HN1.out, HN2.out]; omega)), by omega, by omega⟩, by simp [intOf]; omega⟩
    · have k1 : ¬ (i : Int) < (n1 : Int) := by omega
      have k2 : ¬ (i : Int) < (n2 : Int) := by omega
      have k3 : (0 : Int) < (c : Int) := by omega
      go_wp2_with (first
          | (go_at_call 61; with_reducible refine (digit_any A n1 c1 l i _ HN1.out (hr1.ext hE) (by omega) (by omega)).mono ?_; rintro e w' ⟨rfl, rfl⟩)
          | (go_at_call 61; with_reducible refine (digit_any B n2 c2 m i _ HN2.out (hr2.ext hE) (by omega) (by omega)).mono ?_; rintro e w' ⟨rfl, rfl⟩)
          | (at_builtin; refine wpList_app rfl (.tmp 34) (.tmp 37) 28 3 8 rfl introw w.heap.size _ i _ rfl (own_ext ho (ext_alloc _ _)) _ 1 1 [iv ((dg l i + dg m i + c) % 16777216)] rfl rfl (rd_new_one _ _ _) (one_map_iv [_]) (by simp [maxLen]; omega) (by omega) (hE.trans (ext_alloc _ _)).size ?_; intro A2 c2' w2 ho2 hc2 hm2 hr2' hE2 hg2; have hEn := hE2 w (hE.trans (ext_alloc _ _)) (Nat.le_refl _); clear hE2 hg2 hr2'))
      refine ⟨⟨i + 1, (dg l i + dg m i + c) / 16777216, ds ++ [(dg l i + dg m i + c) % 16777216], by go_num, rfl, by rw [List.map_append]; exact ho2, hEn, Lib.hid (HS.out (by rw [HN1.out, HN2.out]; omega)), by have := HP.out.far (by omega); rw [HN1.out, HN2.out] at this; omega, by omega⟩, by simp [intOf]; omega⟩
    · have k1 : ¬ (i : Int) < (n1 : Int) := by omega
      have k2 : ¬ (i : Int) < (n2 : Int) := by omega
      go_wp2
      go_ret
      have hd := HP.out.done (by rw [HN1.out]; exact h0) (by rw [HN2.out]; exact h1)
      exact ⟨_, rfl, Num.mk HP.out.len hnc hrd hd.1 hd.2 hi, hE⟩
end Go.Proofs.Ytndohjgfjbopnaa
end
section
/-
  Walks of the document's answer: differences of numbers.
-/
set_option linter.unusedSimpArgs false
set_option linter.unusedVariables false
namespace Go.Cv.Dig
open Go.RowKit
/-- What stands behind i digits of a difference. -/
structure LessInv (a b ds : List Nat) (o i : Nat) : Prop where
  len : ds.length = i
  small : Small ds
  owed : o ≤ 1
  val : dval ds + lo b i = lo a i + 16777216 ^ i * o
theorem LessInv.start (a b : List Nat) : LessInv a b [] 0 0 := ⟨rfl, Small.nil_, by omega, by simp [dval, lo]⟩
theorem LessInv.up {a b ds : List Nat} {o i : Nat} (ha : Small a) (h : LessInv a b ds o i) (hg : dg b i + o ≤ dg a i) : LessInv a b (ds ++ [dg a i - dg b i - o]) 0 (i + 1) := by
  have h1 := ha.dg i
  refine ⟨by simp [h.len], h.small.snoc (by omega), by omega, ?_⟩
  have hv := h.val
  rw [dval_snoc, h.len, lo_succ, lo_succ, Nat.mul_zero]
  have e : 16777216 ^ i * (dg a i - dg b i - o) + 16777216 ^ i * dg b i + 16777216 ^ i * o = 16777216 ^ i * dg a i := by
    rw [← Nat.mul_add, ← Nat.mul_add]
    congr 1
    omega
  omega
theorem LessInv.down {a b ds : List Nat} {o i : Nat} (hb : Small b) (h : LessInv a b ds o i) (hg : dg a i < dg b i + o) : LessInv a b (ds ++ [dg a i + 16777216 - dg b i - o]) 1 (i + 1) := by
  have h1 := hb.dg i
  have ho := h.owed
  refine ⟨by simp [h.len], h.small.snoc (by omega), by omega, ?_⟩
  have hv := h.val
  rw [dval_snoc, h.len, lo_succ, lo_succ, Nat.mul_one, Nat.pow_succ]
  have e : 16777216 ^ i * (dg a i + 16777216 - dg b i - o) + 16777216 ^ i * dg b i + 16777216 ^ i * o = 16777216 ^ i * dg a i + 16777216 ^ i * 16777216 := by
    rw [← Nat.mul_add, ← Nat.mul_add, ← Nat.mul_add]
    congr 1
    omega
  omega
theorem LessInv.done {a b ds : List Nat} {o : Nat} (hb : b.length ≤ a.length) (hle : dval b ≤ dval a) (h : LessInv a b ds o a.length) : dval ds = dval a - dval b := by
  have hv := h.val
  rw [lo_all hb, lo_all (Nat.le_refl _)] at hv
  have h1 := h.small.lt
  rw [h.len] at h1
  have ho := h.owed
  rcases (by omega : o = 0 ∨ o = 1) with rfl | rfl
  · omega
  · omega
theorem Canon.le_len {a b : List Nat} (ha : Canon a) (hb : Canon b) (h : dval b ≤ dval a) : b.length ≤ a.length := by
  rcases Nat.lt_or_ge a.length b.length with h1 | h1
  · have := Canon.len_lt ha hb h1
    omega
  · exact h1
end Go.Cv.Dig
namespace Go.Proofs.Ytndohjgfjbopnaa
open Go.RowKit Go.Cv Go.Cv.Dig

set_option maxRecDepth 4000 in
set_option maxHeartbeats 4000000 in
theorem less_any (A B : Option Addr) (n1 n2 c1 c2 : Nat) (l m : List Nat) (w0 : World) (hn1 : l.length = n1) (hn2 : m.length = n2) (hl : Canon l) (hm : Canon m) (hle : dval m ≤ dval l)
    (hr1 : Rd w0 A (l.map iv)) (hr2 : Rd w0 B (m.map iv)) (hb1 : n1 ≤ 1000000) (hb2 : n2 ≤ 1000000) :
    Calls Try.prog 63 #[.slice A n1 c1, .slice B n2 c2] w0 fun e w' => ∃ v, e = .returned v ∧ Num w' v (dval l - dval m) n1 ∧ Ext w0 w' := by
  have HN1 := Lib.hid hn1
  have HN2 := Lib.hid hn2
  have HL := Lib.hid hl
  have HM := Lib.hid hm
  have HLE := Lib.hid hle
  clear hl hm hle hn1 hn2
  go_enter Try.func63, Try.ntmps63
  go_wp2
  go_loopw [5, 6, 7, 8] (fun v t6 t7 _ wr => ∃ (i o : Nat) (ds : List Nat), t7 = .int .i64 i ∧ t6 = .int .i64 o ∧ wr.ownsRow w0.heap.size 3 1 v i (ds.map iv) ∧ Ext w0 wr ∧ Hid (LessInv l m ds o i) ∧ i ≤ n1 ∧ o ≤ 1) (fun _ _ t7 _ _ => n1 - (intOf t7).toNat)
  case atStart => exact ⟨0, 0, [], rfl, rfl, World.ownsRow_nil w0 _ _ 1, Ext.refl _, Lib.hid (LessInv.start l m), by omega, by omega⟩
  case round =>
    rename_i wr
    obtain ⟨i, o, ds, rfl, rfl, ho, hE, HP, hi, hc⟩ := hrel
    have hx := HL.out.1.dg i
    have hy := HM.out.1.dg i
    obtain ⟨C, cc, rfl, hnc, hcm, hrd, hlen⟩ := own_form ho
    by_cases hlt : i < n1
    · obtain ⟨ad, rfl, hcell⟩ := hr1.at_ (k := i) (by rw [List.length_map]; have := HN1.out; omega)
      rw [List.getElem_map, ← dg_lt] at hcell
      have U := Lib.hid (fun hg => HP.out.up HL.out.1 hg)
      have D := Lib.hid (fun hg => HP.out.down HM.out.1 hg)
      go_upto_region 6 with fail
      refine wp_region_sure (fun w' => Ext wr w') (by kernel_rfl) (ext_drew _) ?_
      refine wpAnyS_go (i := 0) (some 15) (v := ?_) rfl rfl (by kernel_rfl) (by kernel_rfl) (by kernel_rfl) (fun _ _ _ h => h) (.inl ⟨by rfl, fun w hS => ?_⟩) ?_
      rotate_left
      · (try go_simp)
        refine ⟨?_, hS⟩
        with_reducible rfl
      simp only [Act.put, List.setIfInBounds_toArray, List.set_cons_zero, List.set_cons_succ]
      refine wpAnyS_go (i := 1) (some 16) (v := ?_) rfl rfl (by kernel_rfl) (by kernel_rfl) (by kernel_rfl) (fun _ _ _ h => h) (.inl ⟨by rfl, fun w hS => ?_⟩) ?_
      rotate_left
      · (try go_simp)
        refine ⟨?_, hS⟩
        with_reducible rfl
      simp only [Act.put, List.setIfInBounds_toArray, List.set_cons_zero, List.set_cons_succ]
      refine wpAnyS_go (i := 2) (some 17) (v := ?_) rfl rfl (by kernel_rfl) (by kernel_rfl) (by kernel_rfl) (fun _ _ _ h => h) (.inl ⟨by rfl, fun w hS => ?_⟩) ?_
      rotate_left
      · (try go_simp)
        refine ⟨?_, hS⟩
        with_reducible rfl
      simp only [Act.put, List.setIfInBounds_toArray, List.set_cons_zero, List.set_cons_succ]
      refine wpAnyS_go (i := 3) (some 18) (v := ?_) rfl rfl (by kernel_rfl) (by kernel_rfl) (by kernel_rfl) (fun _ _ _ h => h) (.inl ⟨by rfl, fun w hS => ?_⟩) ?_
      rotate_left
      · have e1 := (hE.trans hS).cell hcell
        (try go_simp)
        refine ⟨?_, hS⟩
        with_reducible rfl
      simp only [Act.put, List.setIfInBounds_toArray, List.set_cons_zero, List.set_cons_succ]
      refine wpAnyS_go (i := 4) (some 19) (v := ?_) rfl rfl (by kernel_rfl) (by kernel_rfl) (by kernel_rfl) (fun _ _ _ h => h) (.inl ⟨by rfl, fun w hS => ?_⟩) ?_
      rotate_left
      · (try go_simp)
        refine ⟨?_, hS⟩
        with_reducible rfl
      simp only [Act.put, List.setIfInBounds_toArray, List.set_cons_zero, List.set_cons_succ]
      refine wpAnyS_go (i := 5) (some 20) (v := ?_) rfl rfl (by kernel_rfl) (by kernel_rfl) (by kernel_rfl) (fun _ _ _ h => h) (.inl ⟨by rfl, fun w hS => ?_⟩) ?_
      rotate_left
      · (try go_simp)
        refine ⟨?_, hS⟩
        with_reducible rfl
      simp only [Act.put, List.setIfInBounds_toArray, List.set_cons_zero, List.set_cons_succ]
      refine wpAnyS_go (i := 6) (some 21) (v := ?_) rfl rfl (by kernel_rfl) (by kernel_rfl) (by kernel_rfl) (fun _ _ _ h => h) (.inl ⟨by rfl, fun w hS => ?_⟩) ?_
      rotate_left
      · go_simp
        change Calls _ _ _ _ _
        refine Calls.mono (digit_any B n2 c2 m i _ HN2.out (hr2.ext (hE.trans hS)) (by omega) (by omega)) ?_
        rintro e w' ⟨rfl, rfl⟩
        refine ⟨?_, hS⟩
        with_reducible rfl
      simp only [Act.put, List.setIfInBounds_toArray, List.set_cons_zero, List.set_cons_succ]
      refine wpAnyS_go (i := 7) (some 22) (v := ?_) rfl rfl (by kernel_rfl) (by kernel_rfl) (by kernel_rfl) (fun _ _ _ h => h) (.inl ⟨by rfl, fun w hS => ?_⟩) ?_
      rotate_left
      · (try go_simp)
        refine ⟨?_, hS⟩
        with_reducible rfl
      simp only [Act.put, List.setIfInBounds_toArray, List.set_cons_zero, List.set_cons_succ]
      refine wpAnyS_go (i := 8) (some 23) (v := ?_) rfl rfl (by kernel_rfl) (by kernel_rfl) (by kernel_rfl) (fun _ _ _ h => h) (.inl ⟨by rfl, fun w hS => ?_⟩) ?_
      rotate_left
      · (try go_simp)
        refine ⟨?_, hS⟩
        with_reducible rfl
      simp only [Act.put, List.setIfInBounds_toArray, List.set_cons_zero, List.set_cons_succ]
      refine wpAnyS_go (i := 9) (some 24) (v := ?_) rfl rfl (by kernel_rfl) (by kernel_rfl) (by kernel_rfl) (fun _ _ _ h => h) (.inl ⟨by rfl, fun w hS => ?_⟩) ?_
      rotate_left
      · (try go_simp)
        refine ⟨?_, hS⟩
        with_reducible rfl
      simp only [Act.put, List.setIfInBounds_toArray, List.set_cons_zero, List.set_cons_succ]
      refine wpAnyS_go (i := 10) (some 8) (v := ?_) rfl rfl (by kernel_rfl) (by kernel_rfl) (by kernel_rfl) (fun _ _ _ h => h) (.inl ⟨by rfl, fun w hS => ?_⟩) ?_
      rotate_left
      · (try go_simp)
        refine ⟨?_, hS⟩
        with_reducible rfl
      simp only [Act.put, List.setIfInBounds_toArray, List.set_cons_zero, List.set_cons_succ]
      refine wpAnyS_done (by kernel_rfl) fun w hS => ?_
      replace ho := own_ext ho hS
      replace hE := hE.trans hS
      clear hS hcell
      have hw1 : IntKind.i64.wrap ((dg l i : Int) - (dg m i : Int)) = (dg l i : Int) - (dg m i : Int) := IntWalk.i64_in _ (by omega)
      have hw2 : IntKind.i64.wrap ((dg l i : Int) - (dg m i : Int) - (o : Int)) = (dg l i : Int) - (dg m i : Int) - (o : Int) := IntWalk.i64_in _ (by omega)
      rw [hw1, hw2]
      clear hw1 hw2
      by_cases hg : dg m i + o ≤ dg l i
      · obtain ⟨t, ht, hte⟩ : ∃ t : Nat, (dg l i : Int) - (dg m i : Int) - (o : Int) = (t : Int) ∧ t = dg l i - dg m i - o := ⟨_, by omega, rfl⟩
        rw [ht]
        have HU := Lib.hid (U.out hg)
        rw [← hte] at HU
        have k1 : ¬ (t : Int) < 0 := by omega
        have k2 : t < 16777216 := by omega
        clear ht hte hg U D
        go_wp2_with (at_builtin; refine wpList_app rfl (.tmp 29) (.tmp 31) 28 3 8 rfl introw w0.heap.size _ i _ rfl (own_ext ho (ext_alloc _ _)) _ 1 1 [iv t] rfl rfl (rd_new_one _ _ _) (one_map_iv [_]) (by simp [maxLen]; omega) (by omega) (hE.trans (ext_alloc _ _)).size ?_; intro A2 c2' w2 ho2 hc2 hm2 hr2' hE2 hg2; have hEn := hE2 w0 (hE.trans (ext_alloc _ _)) (Nat.le_refl _); clear hE2 hg2 hr2')
        refine ⟨⟨i + 1, 0, ds ++ [t], by go_num, rfl, by rw [List.map_append]; exact ho2, hEn, HU, by omega, by omega⟩, by simp [intOf]; omega⟩
      · obtain ⟨t, ht, hte⟩ : ∃ t : Nat, (dg l i : Int) - (dg m i : Int) - (o : Int) = (t : Int) - 16777216 ∧ t = dg l i + 16777216 - dg m i - o := ⟨_, by omega, rfl⟩
        rw [ht]
        have HU := Lib.hid (D.out (by omega))
        rw [← hte] at HU
        have k1 : (t : Int) - 16777216 < 0 := by omega
        have k2 : t < 16777216 := by omega
        have k3 : IntKind.i64.wrap ((t : Int) - 16777216 + 16777216) = (t : Int) := by rw [IntWalk.i64_in _ (by omega)]; omega
        clear ht hte hg U D
        go_wp2_with (at_builtin; refine wpList_app rfl (.tmp 29) (.tmp 31) 28 3 8 rfl introw w0.heap.size _ i _ rfl (own_ext ho (ext_alloc _ _)) _ 1 1 [iv t] rfl rfl (rd_new_one _ _ _) (one_map_iv [_]) (by simp [maxLen]; omega) (by omega) (hE.trans (ext_alloc _ _)).size ?_; intro A2 c2' w2 ho2 hc2 hm2 hr2' hE2 hg2; have hEn := hE2 w0 (hE.trans (ext_alloc _ _)) (Nat.le_refl _); clear hE2 hg2 hr2')
        refine ⟨⟨i + 1, 1, ds ++ [t], by go_num, rfl, by rw [List.map_append]; exact ho2, hEn, HU, by omega, by omega⟩, by simp [intOf]; omega⟩
    · have hin : i = n1 := by omega
      subst hin
      have hln := Canon.le_len HL.out HM.out HLE.out
      have hdv : Hid (dval ds = dval l - dval m) := Lib.hid (by
        have hq := HP.out
        rw [← HN1.out] at hq
        exact hq.done hln HLE.out)
      clear hln
      go_wp2_with (go_at_call 80; with_reducible refine (cut_any C i cc ds _ HP.out.len HP.out.small hrd (by omega) hnc).mono ?_; rintro e w' ⟨r, rfl, hri, hrv, hrc, rfl⟩)
      go_ret
      exact ⟨_, rfl, Num.mk (by rw [List.length_take, HP.out.len, Nat.min_eq_left hri]) (by omega) (by rw [List.map_take]; exact hrd.take r) hrc (by rw [hrv, hdv.out]) hri, hE⟩
end Go.Proofs.Ytndohjgfjbopnaa
end
section
/-
  Walks of the document's answer: less than the prime.
-/
set_option linter.unusedSimpArgs false
set_option linter.unusedVariables false
namespace Go.Cv.Dig
open Go.RowKit
theorem pdig_lt {l : List Nat} (hl : Canon l) (h : l.length < 11 ∨ l.length = 11 ∧ dg l 10 < 32767) : dval l < 2 ^ 255 - 19 := by
  rcases h with h | ⟨h1, h2⟩
  · have := hl.1.lt
    have h3 : 16777216 ^ l.length ≤ 16777216 ^ 10 := Nat.pow_le_pow_right (by decide) (by omega)
    omega
  · have h3 := lo_hi l (i := 10) (by omega)
    have h4 := lo_lt hl.1 10
    have h5 : hi l 10 = dg l 10 := by
      rw [hi_cons (by omega)]
      unfold hi
      rw [List.drop_of_length_le (by omega)]
      simp [dval]
    rw [h5] at h3
    omega
theorem below_mod {x : Nat} (h : x < 2 ^ 255) : (x < 2 ^ 255 - 19 → x = x % (2 ^ 255 - 19)) ∧ (2 ^ 255 - 19 ≤ x → x - (2 ^ 255 - 19) = x % (2 ^ 255 - 19)) := by
  constructor
  · intro h1
    rw [Nat.mod_eq_of_lt h1]
  · intro h1
    omega
end Go.Cv.Dig
namespace Go.Proofs.Ytndohjgfjbopnaa
open Go.RowKit Go.Cv Go.Cv.Dig

theorem cmp_ge {x : Nat} {k : Int} (h : cmpIs x (dval pdig) k) (hx : 2 ^ 255 - 19 ≤ x) : k ≥ 0 := by
  rw [pdig_val] at h
  unfold cmpIs at h
  omega
theorem cmp_lt {x : Nat} {k : Int} (h : cmpIs x (dval pdig) k) (hx : ¬ 2 ^ 255 - 19 ≤ x) : ¬ k ≥ 0 := by
  rw [pdig_val] at h
  unfold cmpIs at h
  omega
theorem cmp_p (A B : Option Addr) (c1 c2 : Nat) (l : List Nat) (w : World) (hn1 : l.length = 11) (hl : Canon l)
    (hr1 : Rd w A (l.map iv)) (hr2 : Rd w B (pdig.map iv)) :
    Calls Try.prog 36 #[.slice A 11 c1, .slice B 11 c2] w fun e w' => ∃ c, e = .returned (.int .i64 c) ∧ cmpIs (dval l) (dval pdig) c ∧ Ext w w' :=
  cmp_any A B 11 11 c1 c2 l pdig w hn1 rfl hl pdig_canon hr1 hr2 (by decide) (by decide)
theorem less_p (A B : Option Addr) (c1 c2 : Nat) (l : List Nat) (w : World) (hn1 : l.length = 11) (hl : Canon l) (hle : 2 ^ 255 - 19 ≤ dval l)
    (hr1 : Rd w A (l.map iv)) (hr2 : Rd w B (pdig.map iv)) :
    Calls Try.prog 63 #[.slice A 11 c1, .slice B 11 c2] w fun e w' => ∃ v, e = .returned v ∧ Num w' v (dval l - (2 ^ 255 - 19)) 11 ∧ Ext w w' := by
  have h := less_any A B 11 11 c1 c2 l pdig w hn1 rfl hl pdig_canon (by rw [pdig_val]; exact hle) hr1 hr2 (by decide) (by decide)
  rw [pdig_val] at h
  exact h

set_option maxRecDepth 20000 in
set_option maxHeartbeats 2000000 in
theorem below_any (A : Option Addr) (n1 c1 : Nat) (l : List Nat) (w : World) (hn1 : l.length = n1) (hl : Canon l) (hv : dval l < 2 ^ 255)
    (hr1 : Rd w A (l.map iv)) (hb1 : n1 ≤ 11) (hc1 : n1 ≤ c1) :
    Calls Try.prog 91 #[.slice A n1 c1] w fun e w' => ∃ v, e = .returned v ∧ Num w' v (dval l % (2 ^ 255 - 19)) 11 ∧ Ext w w' := by
  have HN1 := Lib.hid hn1
  have HL := Lib.hid hl
  have HB := Lib.hid (below_mod hv)
  have HP := Lib.hid (pdig_lt hl)
  clear hl hn1 hv
  by_cases h11 : n1 < 11
  · have hlt : dval l < 2 ^ 255 - 19 := HP.out (.inl (by rw [HN1.out]; exact h11))
    have HE := Lib.hid (HB.out.1 hlt)
    clear hlt
    go_enter Try.func91, Try.ntmps91
    go_wp2
    go_ret
    exact ⟨_, rfl, Num.mk HN1.out hc1 hr1 HL.out HE.out hb1, Ext.refl _⟩
  · obtain rfl : n1 = 11 := by omega
    obtain ⟨ad, rfl, hcell⟩ := hr1.at_ (k := 10) (by rw [List.length_map, HN1.out]; decide)
    have hd10 := dg_lt (l := l) (i := 10) (by rw [HN1.out]; decide)
    rw [List.getElem_map, ← hd10] at hcell
    clear hd10
    replace hcell : w.cell? ⟨ad.block, ad.off + 10, none⟩ = some (iv (dg l 10)) := by
      have e : ad.add 10 = ⟨ad.block, ad.off + 10, none⟩ := by unfold Addr.add; rfl
      rw [← e]; exact hcell
    by_cases hd : dg l 10 < 32767
    · have hlt : dval l < 2 ^ 255 - 19 := HP.out (.inr ⟨HN1.out, hd⟩)
      have HE := Lib.hid (HB.out.1 hlt)
      clear hlt
      have hd' : (dg l 10 : Int) < 32767 := by omega
      go_enter Try.func91, Try.ntmps91
      go_wp2
      go_ret
      exact ⟨_, rfl, Num.mk HN1.out hc1 hr1 HL.out HE.out (Nat.le_refl _), Ext.refl _⟩
    · have hd' : ¬ (dg l 10 : Int) < 32767 := by omega
      go_enter Try.func91, Try.ntmps91
      by_cases hge : 2 ^ 255 - 19 ≤ dval l
      · have HE := Lib.hid (HB.out.2 hge)
        have HG := Lib.hid hge
        clear hge
        go_wp2_with (first
          | (go_at_call 56; with_reducible refine (p_any _).mono ?_; rintro e w' ⟨B, c, rfl, hB, hx⟩)
          | (go_at_call 36; with_reducible refine (cmp_p _ _ _ _ l _ HN1.out HL.out (hr1.ext hx) hB).mono ?_; rintro e w' ⟨k, rfl, hk, hx2⟩; have hk2 := cmp_ge hk HG.out; clear hk)
          | (go_at_call 63; with_reducible refine (less_p _ _ _ _ l _ HN1.out HL.out HG.out (hr1.ext (hx.trans hx2)) (hB.ext hx2)).mono ?_; rintro e w' ⟨v, rfl, hnum, hx3⟩))
        go_ret
        exact ⟨_, rfl, HE.out ▸ hnum, (hx.trans hx2).trans hx3⟩
      · have HE := Lib.hid (HB.out.1 (by omega))
        have HG := Lib.hid hge
        clear hge
        go_wp2_with (first
          | (go_at_call 56; with_reducible refine (p_any _).mono ?_; rintro e w' ⟨B, c, rfl, hB, hx⟩)
          | (go_at_call 36; with_reducible refine (cmp_p _ _ _ _ l _ HN1.out HL.out (hr1.ext hx) hB).mono ?_; rintro e w' ⟨k, rfl, hk, hx2⟩; have hk2 := cmp_lt hk HG.out; clear hk))
        go_ret
        exact ⟨_, rfl, Num.mk HN1.out hc1 (hr1.ext (hx.trans hx2)) HL.out HE.out (Nat.le_refl _), hx.trans hx2⟩
end Go.Proofs.Ytndohjgfjbopnaa
end
