/-
  Walks of the document's answer: numbers cut and compared.
-/
import Derived.Test.YtndohjgfjbopnaaRefA
set_option linter.unusedSimpArgs false
set_option linter.unusedVariables false
namespace Go.Cv.Dig
open Go.RowKit
/-- Without the noughts at the end: what is left is the same number. -/
theorem take_val {l : List Nat} {m : Nat} (h : ∀ j, m ≤ j → dg l j = 0) : dval (l.take m) = dval l := by
  have h2 : dval (l.drop m) = 0 := dval_zeros fun d hd => by
    obtain ⟨i, hi, rfl⟩ := List.mem_iff_getElem.1 hd
    have h3 := h (m + i) (by omega)
    rw [List.length_drop] at hi
    rw [dg_lt (by omega)] at h3
    rw [List.getElem_drop]
    exact h3
  have e : dval l = dval (l.take m ++ l.drop m) := by rw [List.take_append_drop]
  rw [e, dval_append, h2]
  omega
theorem take_canon {l : List Nat} {m : Nat} (hs : Small l) (hm : m ≤ l.length) (h : m = 0 ∨ dg l (m - 1) ≠ 0) : Canon (l.take m) := by
  rcases h with rfl | h
  · simp [Canon.nil_]
  · rcases m with _ | k
    · simp [Canon.nil_]
    · refine ⟨hs.take _, ?_⟩
      rw [List.getLast?_take]
      simp only [Nat.add_one_ne_zero, if_false, Nat.add_sub_cancel] at h ⊢
      rw [List.getElem?_eq_getElem (by omega)]
      rw [dg_lt (by omega)] at h
      simpa using h
end Go.Cv.Dig
namespace Go.Proofs.Ytndohjgfjbopnaa
open Go.RowKit Go.Cv Go.Cv.Dig

set_option maxHeartbeats 800000 in
theorem cut_any (A : Option Addr) (n cap : Nat) (l : List Nat) (w : World) (hn : l.length = n) (hs : Small l) (hr : Rd w A (l.map iv)) (hm : n ≤ 140737488355328) (hcap : n ≤ cap) :
    Calls Try.prog 80 #[.slice A n cap] w fun e w' => ∃ m, e = .returned (.slice A m cap) ∧ m ≤ n ∧ dval (l.take m) = dval l ∧ Canon (l.take m) ∧ w' = w := by
  subst hn
  have HS := Lib.hid hs
  clear hs
  go_enter Try.func80, Try.ntmps80
  go_wp2
  go_loop [3] (fun t => ∃ m : Nat, m ≤ l.length ∧ t = .int .i64 m ∧ ∀ j, m ≤ j → dg l j = 0) (fun t => (intOf t).toNat)
  case atStart => exact ⟨_, Nat.le_refl _, rfl, fun j h => dg_ge h⟩
  case round =>
    obtain ⟨m, hml, rfl, hz⟩ := hrel
    have HZ := Lib.hid hz
    clear hz
    rcases m with _ | k
    · go_wp2
      go_ret
      exact ⟨0, by simp [go_sem], Nat.zero_le _, take_val HZ.out, take_canon HS.out (Nat.zero_le _) (.inl rfl), rfl⟩
    · obtain ⟨ad, rfl, hc⟩ := hr.at_ (k := k) (by rw [List.length_map]; omega)
      rw [List.getElem_map] at hc
      have HD : Hid (dg l k = l[k]) := Lib.hid (dg_lt (by omega))
      have hk : ((k + 1 : Nat) : Int) - 1 = (k : Int) := by omega
      generalize l[k] = d at *
      by_cases h0 : d = 0
      · subst h0
        go_wp2
        go_round
        case rel => exact ⟨k, by omega, by go_num, fun j hj => by
          by_cases hjk : j = k
          · subst hjk; exact HD.out
          · exact HZ.out j (by omega)⟩
        case measure => simp [intOf]
      · have h0' : ¬ ((d : Int) = 0) := by omega
        go_wp2
        go_ret
        exact ⟨k + 1, by simp [go_sem], hml, take_val HZ.out, take_canon HS.out hml (.inr (by show dg l k ≠ 0; rw [HD.out]; exact h0)), rfl⟩

/-- What a comparison says. -/
def cmpIs (x y : Nat) (c : Int) : Prop := (x < y ∧ c = -1) ∨ (x = y ∧ c = 0) ∨ (y < x ∧ c = 1)
set_option maxHeartbeats 1600000 in
theorem cmp_any (A B : Option Addr) (n1 n2 c1 c2 : Nat) (l m : List Nat) (w : World) (hn1 : l.length = n1) (hn2 : m.length = n2) (hl : Canon l) (hm : Canon m)
    (hr1 : Rd w A (l.map iv)) (hr2 : Rd w B (m.map iv)) (hb1 : n1 ≤ 140737488355328) (hb2 : n2 ≤ 140737488355328) :
    Calls Try.prog 36 #[.slice A n1 c1, .slice B n2 c2] w fun e w' => ∃ c, e = .returned (.int .i64 c) ∧ cmpIs (dval l) (dval m) c ∧ Ext w w' := by
  have HL := Lib.hid hl
  have HM := Lib.hid hm
  clear hl hm
  by_cases hlen : n1 = n2
  · subst hlen
    have HN1 := Lib.hid hn1
    have HN2 := Lib.hid hn2
    clear hn1 hn2
    go_enter Try.func36, Try.ntmps36
    go_wp2
    go_loopw [5] (fun t wr => ∃ k : Nat, k ≤ n1 ∧ t = .int .i64 ((k : Int) - 1) ∧ Ext w wr ∧ hi l k = hi m k) (fun t _ => (intOf t + 1).toNat)
    case atStart => exact ⟨n1, Nat.le_refl _, rfl, Ext.refl _, by unfold hi; rw [List.drop_of_length_le (Nat.le_of_eq HN1.out), List.drop_of_length_le (Nat.le_of_eq HN2.out)]⟩
    case round =>
      obtain ⟨k, hk, rfl, hE, hh⟩ := hrel
      obtain ⟨x, rfl⟩ := grw_of_ext hE
      clear hE
      have HH := Lib.hid hh
      clear hh
      rcases k with _ | j
      · go_wp2
        go_ret
        refine ⟨0, rfl, .inr (.inl ⟨?_, rfl⟩), grw_ext _ _⟩
        have h := HH.out
        unfold hi at h
        rwa [List.drop_zero, List.drop_zero] at h
      · obtain ⟨ad, rfl, hc⟩ := (hr1.ext (grw_ext w x)).at_ (k := j) (by rw [List.length_map]; have := HN1.out; have := HN2.out; omega)
        obtain ⟨bd, rfl, hd⟩ := (hr2.ext (grw_ext w x)).at_ (k := j) (by rw [List.length_map]; have := HN1.out; have := HN2.out; omega)
        rw [List.getElem_map] at hc hd
        have e : ((j + 1 : Nat) : Int) - 1 = (j : Int) := by omega
        rw [e]
        have hj1 : j < l.length := by have := HN1.out; omega
        have hj2 : j < m.length := by have := HN2.out; omega
        have hjn : j < n1 := by omega
        have D1 : Hid (dg l j = l[j]) := Lib.hid (dg_lt hj1)
        have D2 : Hid (dg m j = m[j]) := Lib.hid (dg_lt hj2)
        generalize l[j] = d1 at *
        generalize m[j] = d2 at *
        replace hj1 := Lib.hid hj1
        replace hj2 := Lib.hid hj2
        by_cases h1 : d1 < d2
        · have h1' : (d1 : Int) < (d2 : Int) := by omega
          go_wp2
          go_quiet (fail)
          go_wp2
          go_ret
          refine ⟨-1, rfl, .inl ⟨?_, rfl⟩, by (repeat (first | exact grw_ext _ _ | exact Ext.refl _ | refine Ext.drewN ?_ _ | refine Ext.trans ?_ (ext_drew _)))⟩
          exact lt_of_hi HL.out.1 hj1.out hj2.out HH.out (by rw [D1.out, D2.out]; exact h1)
        · have h1' : ¬ (d1 : Int) < (d2 : Int) := by omega
          by_cases h2 : d2 < d1
          · have h2' : (d2 : Int) < (d1 : Int) := by omega
            go_wp2
            go_quiet (fail)
            go_wp2
            go_quiet (fail)
            go_wp2
            go_ret
            refine ⟨1, rfl, .inr (.inr ⟨?_, rfl⟩), by (repeat (first | exact grw_ext _ _ | exact Ext.refl _ | refine Ext.drewN ?_ _ | refine Ext.trans ?_ (ext_drew _)))⟩
            exact lt_of_hi HM.out.1 hj2.out hj1.out HH.out.symm (by rw [D1.out, D2.out]; exact h2)
          · have h2' : ¬ (d2 : Int) < (d1 : Int) := by omega
            have he : d1 = d2 := by omega
            go_wp2
            go_quiet (fail)
            go_wp2
            go_quiet (fail)
            go_wp2
            refine ⟨?_, by simp [intOf]⟩
            exact ⟨j, by omega, rfl, by (repeat (first | exact grw_ext _ _ | exact Ext.refl _ | refine Ext.drewN ?_ _ | refine Ext.trans ?_ (ext_drew _))), hi_eq HH.out hj1.out hj2.out (by rw [D1.out, D2.out, he])⟩
  · subst hn1 hn2
    by_cases hlt : l.length < m.length
    · go_enter Try.func36, Try.ntmps36
      go_wp2
      go_ret
      exact ⟨-1, rfl, .inl ⟨Canon.len_lt HL.out HM.out hlt, rfl⟩, Ext.refl _⟩
    · have hgt : m.length < l.length := by omega
      go_enter Try.func36, Try.ntmps36
      go_wp2
      go_ret
      exact ⟨1, rfl, .inr (.inr ⟨Canon.len_lt HM.out HL.out hgt, rfl⟩), Ext.refl _⟩
end Go.Proofs.Ytndohjgfjbopnaa
