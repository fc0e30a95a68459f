/-
  Texts of the lemmas below the claim, put together: RA RB.
-/
import Derived.Test.YtgeihelkkhjjaaaDoorDP
import Derived.Deep.AppendLies
import Derived.Laws.MakeOwn
import Derived.Deep.RegionLaw
section
section
/-
  Walks of the document's answer: numbers cut and compared.
-/
set_option linter.unusedSimpArgs false
set_option linter.unusedVariables false
namespace Go.Cv.Dig
open Go.RowKit
/-- Without the noughts at the end: what is left is the same number. -/
theorem take_val {l : List Nat} {m : Nat} (h : ∀ j, m ≤ j → dg l j = 0) : dval (l.take m) = dval l := by
  have h2 : dval (l.drop m) = 0 := dval_zeros fun d hd => by
    obtain ⟨i, hi, rfl⟩ := List.mem_iff_getElem.1 hd
    have h3 := h (m + i) (by omega)
    rw [List.length_drop] at hi
    rw [dg_lt (by omega)] at h3
    rw [List.getElem_drop]
    exact h3
  have e : dval l = dval (l.take m ++ l.drop m) := by rw [List.take_append_drop]
  rw [e, dval_append, h2]
  omega
theorem take_canon {l : List Nat} {m : Nat} (hs : Small l) (hm : m ≤ l.length) (h : m = 0 ∨ dg l (m - 1) ≠ 0) : Canon (l.take m) := by
  rcases h with rfl | h
  · simp [Canon.nil_]
  · rcases m with _ | k
    · simp [Canon.nil_]
    · refine ⟨hs.take _, ?_⟩
      rw [List.getLast?_take]
      simp only [Nat.add_one_ne_zero, if_false, Nat.add_sub_cancel] at h ⊢
      rw [List.getElem?_eq_getElem (by omega)]
      rw [dg_lt (by omega)] at h
      simpa using h
end Go.Cv.Dig
namespace Go.Proofs.YtgeihelkkhjjaaaDoor
open Go.RowKit Go.Cv Go.Cv.Dig

set_option maxHeartbeats 800000 in
theorem cut_any (A : Option Addr) (n cap : Nat) (l : List Nat) (w : World) (hn : l.length = n) (hs : Small l) (hr : Rd w A (l.map iv)) (hm : n ≤ 140737488355328) (hcap : n ≤ cap) :
    Calls Tryd.prog 22 #[.slice A n cap] w fun e w' => ∃ m, e = .returned (.slice A m cap) ∧ m ≤ n ∧ dval (l.take m) = dval l ∧ Canon (l.take m) ∧ w' = w := by
  subst hn
  have HS := Lib.hid hs
  clear hs
  go_enter Tryd.func22, Tryd.ntmps22
  go_wp2
  go_loop [3] (fun t => ∃ m : Nat, m ≤ l.length ∧ t = .int .i64 m ∧ ∀ j, m ≤ j → dg l j = 0) (fun t => (intOf t).toNat)
  case atStart => exact ⟨_, Nat.le_refl _, rfl, fun j h => dg_ge h⟩
  case round =>
    obtain ⟨m, hml, rfl, hz⟩ := hrel
    have HZ := Lib.hid hz
    clear hz
    rcases m with _ | k
    · go_wp2
      go_ret
      exact ⟨0, by simp [go_sem], Nat.zero_le _, take_val HZ.out, take_canon HS.out (Nat.zero_le _) (.inl rfl), rfl⟩
    · obtain ⟨ad, rfl, hc⟩ := hr.at_ (k := k) (by rw [List.length_map]; omega)
      rw [List.getElem_map] at hc
      have HD : Hid (dg l k = l[k]) := Lib.hid (dg_lt (by omega))
      have hk : ((k + 1 : Nat) : Int) - 1 = (k : Int) := by omega
      generalize l[k] = d at *
      by_cases h0 : d = 0
      · subst h0
        go_wp2
        go_round
        case rel => exact ⟨k, by omega, by go_num, fun j hj => by
          by_cases hjk : j = k
          · subst hjk; exact HD.out
          · exact HZ.out j (by omega)⟩
        case measure => simp [intOf]
      · have h0' : ¬ ((d : Int) = 0) := by omega
        go_wp2
        go_ret
        exact ⟨k + 1, by simp [go_sem], hml, take_val HZ.out, take_canon HS.out hml (.inr (by show dg l k ≠ 0; rw [HD.out]; exact h0)), rfl⟩

end Go.Proofs.YtgeihelkkhjjaaaDoor
end
section
/-
  Walks of the document's answer: sums of numbers.
-/
set_option linter.unusedSimpArgs false
set_option linter.unusedVariables false
namespace Go.Cv.Dig
open Go.RowKit
/-- One digit of a sum. -/
theorem plus_step {D P i c x y X Y : Nat} (h : D + P * c = X + Y) :
    D + P * ((x + y + c) % 16777216) + P * 16777216 * ((x + y + c) / 16777216) = X + P * x + (Y + P * y) := by
  have e := Nat.mod_add_div (x + y + c) 16777216
  have e2 : P * ((x + y + c) % 16777216 + 16777216 * ((x + y + c) / 16777216)) = P * (x + y + c) := by rw [e]
  rw [Nat.mul_add, ← Nat.mul_assoc] at e2
  rw [Nat.mul_add, Nat.mul_add] at e2
  omega
/-- What stands behind i digits of a sum. -/
structure PlusInv (a b ds : List Nat) (c i : Nat) : Prop where
  len : ds.length = i
  small : Small ds
  carry : c ≤ 1
  val : dval ds + 16777216 ^ i * c = lo a i + lo b i
  far : c ≠ 0 → i ≤ a.length ∨ i ≤ b.length
  le : i ≤ a.length + b.length + 1
  last : c = 0 → a.length ≤ i → b.length ≤ i → ds.getLast? ≠ some 0
theorem PlusInv.start (a b : List Nat) : PlusInv a b [] 0 0 := ⟨rfl, Small.nil_, by omega, by simp [dval, lo], fun h => absurd rfl h, by omega, fun _ _ _ => by simp⟩
theorem Canon.top {l : List Nat} (h : Canon l) {i : Nat} (hi : i < l.length) (ht : l.length ≤ i + 1) : dg l i ≠ 0 := by
  have h2 := h.2
  have e : i = l.length - 1 := by omega
  rw [List.getLast?_eq_getElem?, ← e, List.getElem?_eq_getElem hi] at h2
  rw [dg_lt hi]
  intro h0
  exact h2 (by rw [h0])
theorem PlusInv.step {a b ds : List Nat} {c i : Nat} (ha : Canon a) (hb : Canon b) (h : PlusInv a b ds c i) (hg : i < a.length ∨ i < b.length ∨ 0 < c) :
    PlusInv a b (ds ++ [(dg a i + dg b i + c) % 16777216]) ((dg a i + dg b i + c) / 16777216) (i + 1) := by
  have h1 := ha.1.dg i
  have h2 := hb.1.dg i
  have hc := h.carry
  refine ⟨by simp [h.len], h.small.snoc (Nat.mod_lt _ (by decide)), by omega, ?_, fun h0 => ?_, ?_, fun h0 hla hlb => ?_⟩
  · rw [dval_snoc, h.len, lo_succ, lo_succ, Nat.pow_succ]
    exact plus_step (i := i) h.val
  · by_cases hia : i < a.length
    · exact .inl hia
    · by_cases hib : i < b.length
      · exact .inr hib
      · rw [dg_ge (by omega), dg_ge (by omega)] at h0
        omega
  · have := h.far
    by_cases hc0 : c = 0
    · omega
    · have := this hc0
      omega
  · rw [List.getLast?_append, List.getLast?_singleton]
    simp only [Option.some_or]
    intro he
    have he := Option.some.inj he
    have hz : dg a i + dg b i + c = 0 := by omega
    rcases hg with hg | hg | hg
    · have := ha.top hg hla; omega
    · have := hb.top hg hlb; omega
    · omega
theorem PlusInv.done {a b ds : List Nat} {i : Nat} (h : PlusInv a b ds 0 i) (hla : a.length ≤ i) (hlb : b.length ≤ i) : Canon ds ∧ dval ds = dval a + dval b := by
  refine ⟨⟨h.small, h.last rfl hla hlb⟩, ?_⟩
  have := h.val
  rw [lo_all hla, lo_all hlb] at this
  omega
end Go.Cv.Dig
namespace Go.Proofs.YtgeihelkkhjjaaaDoor
open Go.RowKit Go.Cv Go.Cv.Dig

/-- A number that came back: its digits, none of them nought at the end, at most N. -/
def Num (w : World) (v : Value) (x N : Nat) : Prop := ∃ A n c l, v = .slice A n c ∧ l.length = n ∧ n ≤ c ∧ Rd w A (l.map iv) ∧ Canon l ∧ dval l = x ∧ n ≤ N
theorem Num.mk {w : World} {x N : Nat} {A : Option Addr} {n c : Nat} {l : List Nat} (hn : l.length = n) (hc : n ≤ c) (hr : Rd w A (l.map iv)) (hl : Canon l) (hx : dval l = x) (hN : n ≤ N) : Num w (.slice A n c) x N :=
  ⟨A, n, c, l, rfl, hn, hc, hr, hl, hx, hN⟩
theorem Num.ext {w w' : World} {v : Value} {x N : Nat} (h : Num w v x N) (hx : Ext w w') : Num w' v x N := by
  obtain ⟨A, n, c, l, rfl, hn, hc, hr, h⟩ := h
  exact ⟨A, n, c, l, rfl, hn, hc, hr.ext hx, h⟩
theorem introw : RowT Tryd.prog 30 3 8 := RowT.of (z := .int .i64 0) Tryd.underlying30 (by kernel_rfl) rfl

set_option maxHeartbeats 2000000 in
theorem plus_any (A B : Option Addr) (n1 n2 c1 c2 : Nat) (l m : List Nat) (w : World) (hn1 : l.length = n1) (hn2 : m.length = n2) (hl : Canon l) (hm : Canon m)
    (hr1 : Rd w A (l.map iv)) (hr2 : Rd w B (m.map iv)) (hb1 : n1 ≤ 1000000) (hb2 : n2 ≤ 1000000) :
    Calls Tryd.prog 9 #[.slice A n1 c1, .slice B n2 c2] w fun e w' => ∃ v, e = .returned v ∧ Num w' v (dval l + dval m) (n1 + n2 + 1) ∧ Ext w w' := by
  have HN1 := Lib.hid hn1
  have HN2 := Lib.hid hn2
  have HL := Lib.hid hl
  have HM := Lib.hid hm
  clear hl hm
  go_enter Tryd.func9, Tryd.ntmps9
  go_wp2
  go_loopw [5, 6, 7, 8] (fun v t6 t7 _ wr => ∃ (i c : Nat) (ds : List Nat), t7 = .int .i64 i ∧ t6 = .int .i64 c ∧ wr.ownsRow w.heap.size 3 1 v i (ds.map iv) ∧ Ext w wr ∧ Hid (PlusInv l m ds c i) ∧ i ≤ n1 + n2 + 1 ∧ c ≤ 1) (fun _ _ t7 _ _ => n1 + n2 + 2 - (intOf t7).toNat)
  case atStart => exact ⟨0, 0, [], rfl, rfl, World.ownsRow_nil w _ _ 1, Ext.refl _, Lib.hid (PlusInv.start l m), by omega, by omega⟩
  case round =>
    obtain ⟨i, c, ds, rfl, rfl, ho, hE, HP, hi, hc⟩ := hrel
    have hx := HL.out.1.dg i
    have hy := HM.out.1.dg i
    obtain ⟨C, cc, rfl, hnc, hcm, hrd, hlen⟩ := own_form ho
    have HS : Hid ((i < l.length ∨ i < m.length ∨ 0 < c) → PlusInv l m (ds ++ [(dg l i + dg m i + c) % 16777216]) ((dg l i + dg m i + c) / 16777216) (i + 1)) := Lib.hid fun hg => HP.out.step HL.out HM.out hg
    rcases (by omega : i < n1 ∨ (n1 ≤ i ∧ i < n2) ∨ (n1 ≤ i ∧ n2 ≤ i ∧ 0 < c) ∨ (n1 ≤ i ∧ n2 ≤ i ∧ c = 0)) with h | ⟨h0, h⟩ | ⟨h0, h1, h⟩ | ⟨h0, h1, rfl⟩
    · have k1 : (i : Int) < (n1 : Int) := by omega
      go_wp2_with (first
          | (go_at_call 21; with_reducible refine (digit_any A n1 c1 l i _ HN1.out (hr1.ext hE) (by omega) (by omega)).mono ?_; rintro e w' ⟨rfl, rfl⟩)
          | (go_at_call 21; with_reducible refine (digit_any B n2 c2 m i _ HN2.out (hr2.ext hE) (by omega) (by omega)).mono ?_; rintro e w' ⟨rfl, rfl⟩)
          | (at_builtin; refine wpList_app rfl (.tmp 34) (.tmp 37) 30 3 8 rfl introw w.heap.size _ i _ rfl (own_ext ho (ext_alloc _ _)) _ 1 1 [iv ((dg l i + dg m i + c) % 16777216)] rfl rfl (rd_new_one _ _ _) (one_map_iv [_]) (by simp [maxLen]; omega) (by omega) (hE.trans (ext_alloc _ _)).size ?_; intro A2 c2' w2 ho2 hc2 hm2 hr2' hE2 hg2; have hEn := hE2 w (hE.trans (ext_alloc _ _)) (Nat.le_refl _); clear hE2 hg2 hr2'))
      refine ⟨⟨i + 1, (dg l i + dg m i + c) / 16777216, ds ++ [(dg l i + dg m i + c) % 16777216], by go_num, rfl, by rw [List.map_append]; exact ho2, hEn, Lib.hid (HS.out (by rw [HN1.out, HN2.out]; omega)), by omega, by omega⟩, by simp [intOf]; omega⟩
    · have k1 : ¬ (i : Int) < (n1 : Int) := by omega
      have k2 : (i : Int) < (n2 : Int) := by omega
      go_wp2_with (first
          | (go_at_call 21; with_reducible refine (digit_any A n1 c1 l i _ HN1.out (hr1.ext hE) (by omega) (by omega)).mono ?_; rintro e w' ⟨rfl, rfl⟩)
          | (go_at_call 21; with_reducible refine (digit_any B n2 c2 m i _ HN2.out (hr2.ext hE) (by omega) (by omega)).mono ?_; rintro e w' ⟨rfl, rfl⟩)
          | (at_builtin; refine wpList_app rfl (.tmp 34) (.tmp 37) 30 3 8 rfl introw w.heap.size _ i _ rfl (own_ext ho (ext_alloc _ _)) _ 1 1 [iv ((dg l i + dg m i + c) % 16777216)] rfl rfl (rd_new_one _ _ _) (one_map_iv [_]) (by simp [maxLen]; omega) (by omega) (hE.trans (ext_alloc _ _)).size ?_; intro A2 c2' w2 ho2 hc2 hm2 hr2' hE2 hg2; have hEn := hE2 w (hE.trans (ext_alloc _ _)) (Nat.le_refl _); clear hE2 hg2 hr2'))
      refine ⟨⟨i + 1, (dg l i + dg m i + c) / 16777216, ds ++ [(dg l i + dg m i + c) % 16777216], by go_num, rfl, by rw [List.map_append]; exact ho2, hEn, Lib.hid (HS.out (by rw [HN1.out, HN2.out]; omega)), by omega, by omega⟩, by simp [intOf]; omega⟩
    · have k1 : ¬ (i : Int) < (n1 : Int) := by omega
      have k2 : ¬ (i : Int) < (n2 : Int) := by omega
      have k3 : (0 : Int) < (c : Int) := by omega
      go_wp2_with (first
          | (go_at_call 21; with_reducible refine (digit_any A n1 c1 l i _ HN1.out (hr1.ext hE) (by omega) (by omega)).mono ?_; rintro e w' ⟨rfl, rfl⟩)
          | (go_at_call 21; with_reducible refine (digit_any B n2 c2 m i _ HN2.out (hr2.ext hE) (by omega) (by omega)).mono ?_; rintro e w' ⟨rfl, rfl⟩)
          | (at_builtin; refine wpList_app rfl (.tmp 34) (.tmp 37) 30 3 8 rfl introw w.heap.size _ i _ rfl (own_ext ho (ext_alloc _ _)) _ 1 1 [iv ((dg l i + dg m i + c) % 16777216)] rfl rfl (rd_new_one _ _ _) (one_map_iv [_]) (by simp [maxLen]; omega) (by omega) (hE.trans (ext_alloc _ _)).size ?_; intro A2 c2' w2 ho2 hc2 hm2 hr2' hE2 hg2; have hEn := hE2 w (hE.trans (ext_alloc _ _)) (Nat.le_refl _); clear hE2 hg2 hr2'))
      refine ⟨⟨i + 1, (dg l i + dg m i + c) / 16777216, ds ++ [(dg l i + dg m i + c) % 16777216], by go_num, rfl, by rw [List.map_append]; exact ho2, hEn, Lib.hid (HS.out (by rw [HN1.out, HN2.out]; omega)), by have := HP.out.far (by omega); rw [HN1.out, HN2.out] at this; omega, by omega⟩, by simp [intOf]; omega⟩
    · have k1 : ¬ (i : Int) < (n1 : Int) := by omega
      have k2 : ¬ (i : Int) < (n2 : Int) := by omega
      go_wp2
      go_ret
      have hd := HP.out.done (by rw [HN1.out]; exact h0) (by rw [HN2.out]; exact h1)
      exact ⟨_, rfl, Num.mk HP.out.len hnc hrd hd.1 hd.2 hi, hE⟩
end Go.Proofs.YtgeihelkkhjjaaaDoor
end
section
/-
  Walks of the document's answer: differences of numbers.
-/
set_option linter.unusedSimpArgs false
set_option linter.unusedVariables false
namespace Go.Cv.Dig
open Go.RowKit
/-- What stands behind i digits of a difference. -/
structure LessInv (a b ds : List Nat) (o i : Nat) : Prop where
  len : ds.length = i
  small : Small ds
  owed : o ≤ 1
  val : dval ds + lo b i = lo a i + 16777216 ^ i * o
theorem LessInv.start (a b : List Nat) : LessInv a b [] 0 0 := ⟨rfl, Small.nil_, by omega, by simp [dval, lo]⟩
theorem LessInv.up {a b ds : List Nat} {o i : Nat} (ha : Small a) (h : LessInv a b ds o i) (hg : dg b i + o ≤ dg a i) : LessInv a b (ds ++ [dg a i - dg b i - o]) 0 (i + 1) := by
  have h1 := ha.dg i
  refine ⟨by simp [h.len], h.small.snoc (by omega), by omega, ?_⟩
  have hv := h.val
  rw [dval_snoc, h.len, lo_succ, lo_succ, Nat.mul_zero]
  have e : 16777216 ^ i * (dg a i - dg b i - o) + 16777216 ^ i * dg b i + 16777216 ^ i * o = 16777216 ^ i * dg a i := by
    rw [← Nat.mul_add, ← Nat.mul_add]
    congr 1
    omega
  omega
theorem LessInv.done {a b ds : List Nat} {o : Nat} (hb : b.length ≤ a.length) (hle : dval b ≤ dval a) (h : LessInv a b ds o a.length) : dval ds = dval a - dval b := by
  have hv := h.val
  rw [lo_all hb, lo_all (Nat.le_refl _)] at hv
  have h1 := h.small.lt
  rw [h.len] at h1
  have ho := h.owed
  rcases (by omega : o = 0 ∨ o = 1) with rfl | rfl
  · omega
  · omega
end Go.Cv.Dig
namespace Go.Proofs.YtgeihelkkhjjaaaDoor
open Go.RowKit Go.Cv Go.Cv.Dig

end Go.Proofs.YtgeihelkkhjjaaaDoor
end
section
/-
  Walks of the document's answer: less than the prime.
-/
set_option linter.unusedSimpArgs false
set_option linter.unusedVariables false
namespace Go.Cv.Dig
open Go.RowKit
end Go.Cv.Dig
namespace Go.Proofs.YtgeihelkkhjjaaaDoor
open Go.RowKit Go.Cv Go.Cv.Dig

end Go.Proofs.YtgeihelkkhjjaaaDoor
end
end
section
section
/-
  Walks of the document's answer: bytes as a number.
-/
set_option linter.unusedSimpArgs false
set_option linter.unusedVariables false
namespace Go.Cv.Dig
open Go.RowKit
/-- A byte of a list, 0 behind its end. -/
def lb (l : List UInt8) (j : Nat) : UInt8 := l.getD j 0
theorem lb_lt {l : List UInt8} {j : Nat} (h : j < l.length) : lb l j = l[j] := by simp [lb, List.getD, List.getElem?_eq_getElem h]
theorem lb_ge {l : List UInt8} {j : Nat} (h : l.length ≤ j) : lb l j = 0 := by simp [lb, List.getD, List.getElem?_eq_none h]
/-- Three bytes as a digit. -/
def d3 (g : Nat → UInt8) (i : Nat) : Nat := (g i).toNat + 256 * ((g (i + 1)).toNat + 256 * (g (i + 2)).toNat)
theorem d3_lt (g : Nat → UInt8) (i : Nat) : d3 g i < 16777216 := by
  have := (g i).toNat_lt; have := (g (i + 1)).toNat_lt; have := (g (i + 2)).toNat_lt
  unfold d3; omega
structure OfInv (g : Nat → UInt8) (ds : List Nat) (i : Nat) : Prop where
  len : 3 * ds.length = i
  small : Small ds
  val : dval ds = bsum g i
theorem OfInv.start (g : Nat → UInt8) : OfInv g [] 0 := ⟨rfl, Small.nil_, rfl⟩
theorem OfInv.step {g : Nat → UInt8} {ds : List Nat} {i : Nat} (h : OfInv g ds i) : OfInv g (ds ++ [d3 g i]) (i + 3) := by
  refine ⟨by simp; have := h.len; omega, h.small.snoc (d3_lt g i), ?_⟩
  rw [dval_snoc, h.val]
  simp only [bsum]
  have e : (16777216 : Nat) ^ ds.length = 2 ^ (8 * i) := by
    rw [show (16777216 : Nat) = 2 ^ 24 from rfl, ← Nat.pow_mul, ← h.len]
    congr 1
    omega
  rw [e, show 8 * (i + 2) = 8 * i + 16 from by omega, show 8 * (i + 1) = 8 * i + 8 from by omega, Nat.pow_add, Nat.pow_add]
  unfold d3
  generalize 2 ^ (8 * i) = P
  rw [Nat.mul_add, Nat.mul_left_comm P 256, Nat.mul_add P, Nat.mul_add 256, Nat.mul_left_comm P 256]
  rw [Nat.mul_assoc, Nat.mul_assoc, Nat.mul_left_comm P (2 ^ 8), Nat.mul_left_comm P (2 ^ 16)]
  omega
theorem bsum_more {g : Nat → UInt8} {n : Nat} : ∀ k, (∀ j, n ≤ j → g j = 0) → bsum g (n + k) = bsum g n
  | 0, _ => rfl
  | k + 1, h => by
    show bsum g (n + k) + 2 ^ (8 * (n + k)) * (g (n + k)).toNat = _
    rw [bsum_more k h, h (n + k) (by omega)]
    simp
end Go.Cv.Dig
namespace Go.Proofs.YtgeihelkkhjjaaaDoor
open Go.RowKit Go.Cv Go.Cv.Dig

theorem cell_struct {w : World} {ad : Addr} {k : Nat} {v : Value} (h : w.cell? (ad.add (k + 1)) = some v) : w.cell? ⟨ad.block, ad.off + (k + 1), none⟩ = some v := h

set_option maxRecDepth 4000 in
set_option maxHeartbeats 4000000 in
theorem of_any (A : Option Addr) (n c1 : Nat) (l : List UInt8) (w0 : World) (hn : l.length = n) (hr : Rd w0 A (l.map bv)) (hb : n ≤ 1000000) :
    Calls Tryd.prog 10 #[.slice A n c1] w0 fun e w' => ∃ v, e = .returned v ∧ Num w' v (bsum (lb l) n) (n + 2) ∧ Ext w0 w' := by
  have HN := Lib.hid hn
  clear hn
  go_enter Tryd.func10, Tryd.ntmps10
  go_wp2
  go_loopw [3, 4, 5, 6] (fun v t4 _ _ wr => ∃ (i q : Nat) (ds : List Nat), t4 = .int .i64 i ∧ wr.ownsRow w0.heap.size 3 1 v q (ds.map iv) ∧ Ext w0 wr ∧ Hid (OfInv (lb l) ds i) ∧ i ≤ n + 2 ∧ 3 * q = i) (fun _ t4 _ _ _ => n + 3 - (intOf t4).toNat)
  case atStart => exact ⟨0, 0, [], rfl, World.ownsRow_nil w0 _ _ 1, Ext.refl _, Lib.hid (OfInv.start _), by omega, rfl⟩
  case round =>
    rename_i wr
    obtain ⟨i, q, ds, rfl, ho, hE, HP, hi, hq⟩ := hrel
    obtain ⟨C, cc, rfl, hnc, hcm, hrd, hlen⟩ := own_form ho
    by_cases hlt : i < n
    · have g0 := (lb l i).toNat_lt
      have g1 := (lb l (i + 1)).toNat_lt
      have g2 := (lb l (i + 2)).toNat_lt
      obtain ⟨ad, rfl, hc0⟩ := (hr.ext hE).at_ (k := i) (by rw [List.length_map, HN.out]; exact hlt)
      rw [List.getElem_map, ← lb_lt] at hc0
      have HS : d3 (lb l) i = (lb l i).toNat + 256 * ((lb l (i + 1)).toNat + 256 * (lb l (i + 2)).toNat) := rfl
      replace hc0 : wr.cell? (ad.add i) = some (.int .u8 ((lb l i).toNat : Int)) := hc0
      by_cases h2 : i + 2 < n
      · obtain ⟨ad2, ha2, hc2⟩ := (hr.ext hE).at_ (k := i + 2) (by rw [List.length_map, HN.out]; exact h2)
        obtain ⟨ad1, ha1, hc1⟩ := (hr.ext hE).at_ (k := i + 1) (by rw [List.length_map, HN.out]; omega)
        cases ha2
        cases ha1
        rw [List.getElem_map, ← lb_lt] at hc1 hc2
        replace hc1 := cell_struct hc1
        replace hc2 := cell_struct hc2
        replace hc1 : wr.cell? ⟨ad.block, ad.off + (i + 1), none⟩ = some (.int .u8 ((lb l (i + 1)).toNat : Int)) := hc1
        replace hc2 : wr.cell? ⟨ad.block, ad.off + (i + 2), none⟩ = some (.int .u8 ((lb l (i + 2)).toNat : Int)) := hc2
        generalize (lb l i).toNat = b0 at *
        generalize (lb l (i + 1)).toNat = b1 at *
        generalize (lb l (i + 2)).toNat = b2 at *
        replace HS : d3 (lb l) i = 256 * (256 * b2 + b1) + b0 := by omega
        have HT : Hid (OfInv (lb l) (ds ++ [256 * (256 * b2 + b1) + b0]) (i + 3)) := Lib.hid (HS ▸ HP.out.step)
        clear HS
        go_wp2
        refine wp_loop_rounds 4 ?_
        rw [rounds_succ]
        go_wp2
        rw [rounds_succ]
        go_wp2
        rw [rounds_succ]
        go_wp2
        rw [rounds_succ]
        go_wp2_with (at_builtin; refine wpList_app rfl (.tmp 34) (.tmp 36) 30 3 8 rfl introw w0.heap.size _ q _ rfl (own_ext ho (ext_alloc _ _)) _ 1 1 [iv (256 * (256 * b2 + b1) + b0)] rfl rfl (rd_new_one _ _ _) (one_map_iv [_]) (by simp [maxLen]; omega) (by omega) (hE.trans (ext_alloc _ _)).size ?_; intro A2 c2' w2 ho2 hc2' hm2 hr2' hE2 hg2; have hEn := hE2 w0 (hE.trans (ext_alloc _ _)) (Nat.le_refl _); clear hE2 hg2 hr2')
        refine ⟨⟨i + 3, q + 1, ds ++ [256 * (256 * b2 + b1) + b0], by go_num, by rw [List.map_append]; exact ho2, hEn, HT, by omega, by omega⟩, by simp [intOf]; omega⟩
      · rw [lb_ge (l := l) (j := i + 2) (by rw [HN.out]; omega)] at HS
        by_cases h1 : i + 1 < n
        · obtain ⟨ad1, ha1, hc1⟩ := (hr.ext hE).at_ (k := i + 1) (by rw [List.length_map, HN.out]; omega)
          cases ha1
          rw [List.getElem_map, ← lb_lt] at hc1
          replace hc1 := cell_struct hc1
          replace hc1 : wr.cell? ⟨ad.block, ad.off + (i + 1), none⟩ = some (.int .u8 ((lb l (i + 1)).toNat : Int)) := hc1
          generalize (lb l i).toNat = b0 at *
          generalize (lb l (i + 1)).toNat = b1 at *
          replace HS : d3 (lb l) i = 256 * b1 + b0 := by rw [HS]; simp; omega
          have HT : Hid (OfInv (lb l) (ds ++ [256 * b1 + b0]) (i + 3)) := Lib.hid (HS ▸ HP.out.step)
          clear HS
          go_wp2
          refine wp_loop_rounds 4 ?_
          rw [rounds_succ]
          go_wp2
          rw [rounds_succ]
          go_wp2
          rw [rounds_succ]
          go_wp2
          rw [rounds_succ]
          go_wp2_with (at_builtin; refine wpList_app rfl (.tmp 34) (.tmp 36) 30 3 8 rfl introw w0.heap.size _ q _ rfl (own_ext ho (ext_alloc _ _)) _ 1 1 [iv (256 * b1 + b0)] rfl rfl (rd_new_one _ _ _) (one_map_iv [_]) (by simp [maxLen]; omega) (by omega) (hE.trans (ext_alloc _ _)).size ?_; intro A2 c2' w2 ho2 hc2' hm2 hr2' hE2 hg2; have hEn := hE2 w0 (hE.trans (ext_alloc _ _)) (Nat.le_refl _); clear hE2 hg2 hr2')
          refine ⟨⟨i + 3, q + 1, ds ++ [256 * b1 + b0], by go_num, by rw [List.map_append]; exact ho2, hEn, HT, by omega, by omega⟩, by simp [intOf]; omega⟩
        · rw [lb_ge (l := l) (j := i + 1) (by rw [HN.out]; omega)] at HS
          generalize (lb l i).toNat = b0 at *
          replace HS : d3 (lb l) i = b0 := by rw [HS]; simp
          have HT : Hid (OfInv (lb l) (ds ++ [b0]) (i + 3)) := Lib.hid (HS ▸ HP.out.step)
          clear HS
          go_wp2
          refine wp_loop_rounds 4 ?_
          rw [rounds_succ]
          go_wp2
          rw [rounds_succ]
          go_wp2
          rw [rounds_succ]
          go_wp2
          rw [rounds_succ]
          go_wp2_with (at_builtin; refine wpList_app rfl (.tmp 34) (.tmp 36) 30 3 8 rfl introw w0.heap.size _ q _ rfl (own_ext ho (ext_alloc _ _)) _ 1 1 [iv (b0)] rfl rfl (rd_new_one _ _ _) (one_map_iv [_]) (by simp [maxLen]; omega) (by omega) (hE.trans (ext_alloc _ _)).size ?_; intro A2 c2' w2 ho2 hc2' hm2 hr2' hE2 hg2; have hEn := hE2 w0 (hE.trans (ext_alloc _ _)) (Nat.le_refl _); clear hE2 hg2 hr2')
          refine ⟨⟨i + 3, q + 1, ds ++ [b0], by go_num, by rw [List.map_append]; exact ho2, hEn, HT, by omega, by omega⟩, by simp [intOf]; omega⟩
    · have HV : Hid (dval ds = bsum (lb l) n) := Lib.hid (by
        rw [HP.out.val, show i = n + (i - n) from by omega]
        exact bsum_more _ fun j hj => lb_ge (by rw [HN.out]; exact hj))
      have HQ : Hid (ds.length = q) := Lib.hid (by have := HP.out.len; omega)
      go_wp2_with (go_at_call 22; with_reducible refine (cut_any C q cc ds _ HQ.out HP.out.small hrd (by omega) hnc).mono ?_; rintro e w' ⟨r, rfl, hri, hrv, hrc, rfl⟩)
      go_ret
      exact ⟨_, rfl, Num.mk (by rw [List.length_take, HQ.out, Nat.min_eq_left hri]) (by omega) (by rw [List.map_take]; exact hrd.take r) hrc (by rw [hrv, HV.out]) (by omega), hE⟩
end Go.Proofs.YtgeihelkkhjjaaaDoor
end
section
/-
  Walks of the document's answer: halves.
-/
set_option linter.unusedSimpArgs false
set_option linter.unusedVariables false
namespace Go.Cv.Dig
open Go.RowKit
/-- Digits as cells. -/
theorem icells_ex (l : List Nat) : ∃ c : Array Value, c = (l.map iv).toArray := ⟨_, rfl⟩
noncomputable def icells (l : List Nat) : Array Value := Classical.choose (icells_ex l)
theorem icells_def (l : List Nat) : icells l = (l.map iv).toArray := Classical.choose_spec (icells_ex l)
@[simp, go_sem] theorem icells_size (l : List Nat) : (icells l).size = l.length := by rw [icells_def]; simp
theorem dg_set {l : List Nat} {i j v : Nat} (h : i < l.length) : dg (l.set i v) j = if j = i then v else dg l j := by
  unfold dg
  rw [List.getD_eq_getElem?_getD, List.getElem?_set]
  by_cases hij : i = j
  · subst hij
    simp [h]
  · have : ¬ j = i := fun e => hij e.symm
    simp [hij, this, List.getD_eq_getElem?_getD]
theorem Small.set {l : List Nat} (h : Small l) {v : Nat} (i : Nat) (hv : v < 16777216) : Small (l.set i v) := fun d hd => by
  rcases List.mem_or_eq_of_mem_set hd with h1 | h1
  · exact h d h1
  · rw [h1]; exact hv
/-- The half's digit. -/
def hd (l : List Nat) (i : Nat) : Nat := dg l i / 2 + dg l (i + 1) % 2 * 8388608
end Go.Cv.Dig
namespace Go.Proofs.YtgeihelkkhjjaaaDoor
open Go.RowKit Go.Cv Go.Cv.Dig

theorem made_icells (n : Nat) : madeCells (Value.cells (.int .i64 0)) n = icells (List.replicate n 0) := by
  rw [icells_def]
  apply Array.ext_getElem?
  intro j
  by_cases hj : j < n
  · simp [madeCells, Value.cells, hj, Nat.mod_one]
  · rw [Array.getElem?_eq_none (by rw [size_madeCells]; omega), Array.getElem?_eq_none (by simp; omega)]
@[go_sem] theorem make_int (n : Nat) (w : World) (hn : n ≤ 1000000) : (Instr.makeSlice 30 (.int .i64 (n : Int)) (.int .i64 (n : Int))).run Tryd.prog w =
    .ok (.slice (some ⟨w.heap.size, 0, none⟩) n n) (w.alloc (.cells (icells (List.replicate n 0)) 3)) := by
  obtain ⟨i, h1, h2, h3, h4⟩ := info_parts (show (Tryd.prog.info? 3).map (fun i => (i.zero, i.size, i.bytes)) = some (some (.int .i64 0), 1, 8) from by kernel_rfl)
  have h := run_makeSlice (P := Tryd.prog) w 30 3 i (.int .i64 0) Tryd.underlying30 h1 h2 .i64 .i64 n n (by omega) (by omega) (by rw [h3]; omega) (by rw [h4]; omega) (by omega)
  rw [h, h3, Int.toNat_natCast, Nat.mul_one]
  rw [made_icells]

end Go.Proofs.YtgeihelkkhjjaaaDoor
end
section
/-
  Walks of the document's answer: nineteen times a number.
-/
set_option linter.unusedSimpArgs false
set_option linter.unusedVariables false
namespace Go.Cv.Dig
open Go.RowKit
/-- What stands behind i digits of the product with 19. -/
structure NineInv (l os : List Nat) (i : Nat) : Prop where
  len : os.length = l.length + 1
  small : Small os
  val : dval os = 19 * lo l i
  zero : ∀ j, i < j → dg os j = 0
theorem dval_replicate (n : Nat) : dval (List.replicate n 0) = 0 := dval_zeros fun d hd => List.eq_of_mem_replicate hd
theorem NineInv.start (l : List Nat) : NineInv l (List.replicate (l.length + 1) 0) 0 := by
  refine ⟨by simp, fun d hd => by rw [List.eq_of_mem_replicate hd]; decide, by rw [dval_replicate, lo_zero], fun j _ => ?_⟩
  unfold dg
  rw [List.getD_eq_getElem?_getD, List.getElem?_replicate]
  split <;> rfl
theorem NineInv.step {l os : List Nat} {i : Nat} (hl : Small l) (hi : i < l.length) (h : NineInv l os i) :
    NineInv l ((os.set i ((dg os i + dg l i * 19) % 16777216)).set (i + 1) ((dg os i + dg l i * 19) / 16777216)) (i + 1) := by
  have h1 := hl.dg i
  have h2 := h.small.dg i
  have hlen := h.len
  have ha : dval (os.set i ((dg os i + dg l i * 19) % 16777216)) + 16777216 ^ i * dg os i = dval os + 16777216 ^ i * ((dg os i + dg l i * 19) % 16777216) := dval_set (by omega) _
  have hz : dg (os.set i ((dg os i + dg l i * 19) % 16777216)) (i + 1) = 0 := by
    rw [dg_set (by omega), if_neg (by omega)]
    exact h.zero _ (by omega)
  have hb := dval_set (l := os.set i ((dg os i + dg l i * 19) % 16777216)) (i := i + 1) (by rw [List.length_set]; omega) ((dg os i + dg l i * 19) / 16777216)
  rw [hz, Nat.mul_zero, Nat.add_zero] at hb
  refine ⟨by rw [List.length_set, List.length_set, hlen], (h.small.set _ (Nat.mod_lt _ (by decide))).set _ (by omega), ?_, fun j hj => ?_⟩
  · rw [hb, lo_succ, Nat.mul_add, ← h.val, Nat.pow_succ]
    have e := Nat.mod_add_div (dg os i + dg l i * 19) 16777216
    have e2 : 16777216 ^ i * ((dg os i + dg l i * 19) % 16777216 + 16777216 * ((dg os i + dg l i * 19) / 16777216)) = 16777216 ^ i * (dg os i + dg l i * 19) := by rw [e]
    rw [Nat.mul_add, ← Nat.mul_assoc, Nat.mul_add] at e2
    have e3 : 19 * (16777216 ^ i * dg l i) = 16777216 ^ i * (dg l i * 19) := by rw [Nat.mul_left_comm, Nat.mul_comm 19]
    omega
  · rw [dg_set (by rw [List.length_set]; omega), if_neg (by omega), dg_set (by omega), if_neg (by omega)]
    exact h.zero _ (by omega)
end Go.Cv.Dig
namespace Go.Proofs.YtgeihelkkhjjaaaDoor
open Go.RowKit Go.Cv Go.Cv.Dig
@[go_sem] theorem make_int1 (n : Nat) (w : World) (hn : n ≤ 999999) : (Instr.makeSlice 30 (.int .i64 ((n : Int) + 1)) (.int .i64 ((n : Int) + 1))).run Tryd.prog w =
    .ok (.slice (some ⟨w.heap.size, 0, none⟩) (n + 1) (n + 1)) (w.alloc (.cells (icells (List.replicate (n + 1) 0)) 3)) := make_int (n + 1) w (by omega)

end Go.Proofs.YtgeihelkkhjjaaaDoor
end
section
/-
  Walks of the document's answer: a number modulo the prime.
-/
set_option linter.unusedSimpArgs false
set_option linter.unusedVariables false
namespace Go.Cv
end Go.Cv
namespace Go.Cv.Dig
open Go.RowKit
theorem Canon.of_snoc {d : Nat} (h : d < 16777216) : Small [d] := fun x hx => by rw [List.mem_singleton.1 hx]; exact h
theorem dval_one (d : Nat) : dval [d] = d := by simp [dval]
end Go.Cv.Dig
namespace Go.Proofs.YtgeihelkkhjjaaaDoor
open Go.RowKit Go.Cv Go.Cv.Dig
theorem Num.parts {w : World} {v : Value} {x N : Nat} (h : Num w v x N) : ∃ A n c l, v = .slice A n c ∧ l.length = n ∧ n ≤ c ∧ Rd w A (l.map iv) ∧ Canon l ∧ dval l = x ∧ n ≤ N := h
theorem Num.short {w : World} {v : Value} {x N M : Nat} (h : Num w v x N) (hx : x < 16777216 ^ M) : Num w v x M := by
  obtain ⟨A, n, c, l, rfl, hn, hc, hr, hl, rfl, hN⟩ := h
  exact Num.mk hn hc hr hl rfl (by rw [← hn]; exact hl.len_le hx)
end Go.Proofs.YtgeihelkkhjjaaaDoor
end
end
