/-
  A region that asks for its order, with three last operations, one behind the other, of which the first hangs on all others but the region's first, which is taken ahead: as XTail's.
-/
import Derived.Test.YtnlphndfnnmdaaaDoorTail
set_option linter.unusedVariables false
set_option linter.unusedSimpArgs false
namespace Go.Cv
open Go Go.RowKit
section
variable {P : Program} {ops : Array Oper} {Q : Exit → Act → World → Prop} {md : Region.Mode} {S : World → Prop}
/-- As wpAnyS, ahead of the last operations, of which N is the first. -/
def wpAnyV (P : Program) (md : Region.Mode) (ops : Array Oper) (Q : Exit → Act → World → Prop) (S : World → Prop) (N : Nat) : Nat → Array Bool → Act → Prop
  | 0, listed, a => Region.ready md ops listed = [N] ∧ ∀ w, S w → wpAny P md ops Q 3 listed a w
  | fuel + 1, listed, a => (∃ i ∈ Region.ready md ops listed, i ≠ N) ∧
    ∀ i ∈ Region.ready md ops listed, i ≠ N → ∀ w, S w → wpOp P ops Q i (fun a' w' => S w' ∧ wpAnyV P md ops Q S N fuel (listed.setIfInBounds i true) a') a w
theorem wpAny_of_tail3 {N : Nat} {o2 o3 : Oper} (ho2 : ops[N + 1]? = some o2) (hb2 : (o2.after.any fun e => Region.binds md e && e.on == N) = true) (ho3 : ops[N + 2]? = some o3) (hb3 : (o3.after.any fun e => Region.binds md e && e.on == N + 1) = true) (n : List Nat) (hcov : ((List.range ops.size).all fun m => m == 0 || m == N || m == N + 1 || m == N + 2 || (needsN md ops n [N]).contains m) = true) :
    ∀ (fuel : Nat) (listed : Array Bool) (a : Act) (w : World), ClosedL md ops listed → listed.getD 0 false = true → S w → wpAnyV P md ops Q S N fuel listed a → wpAny P md ops Q (fuel + 3) listed a w
  | 0, listed, a, w, hc, hp, hS, h => h.2 w hS
  | fuel + 1, listed, a, w, hc, hp, hS, h => by
    obtain ⟨⟨m, hm, hmN⟩, h2⟩ := h
    refine ⟨fun h0 => (by rw [h0] at hm; cases hm), fun i hi => ?_⟩
    by_cases hiN : i = N
    · exfalso
      subst hiN
      obtain ⟨hmun, om, hom, hmall⟩ := mem_ready.1 hm
      obtain ⟨hiun, oi, hoi, hall⟩ := mem_ready.1 hi
      have hms : m < ops.size := (Array.getElem?_eq_some_iff.1 hom).1
      have hcov2 := List.all_eq_true.1 hcov m (List.mem_range.2 hms)
      have hmem : m ∈ needsN md ops n [i] := by
        simp only [Bool.or_eq_true, beq_iff_eq, List.contains_iff_mem] at hcov2
        rcases hcov2 with (((h | h) | h) | h) | h
        · exfalso
          subst h
          rcases Nat.lt_or_ge 0 listed.size with h' | h'
          · simp [h'] at hp hmun; rw [hmun] at hp; cases hp
          · simp [Array.getElem?_eq_none h'] at hp
        · exact absurd h hmN
        · exfalso
          subst h
          obtain rfl := Option.some.inj (ho2.symm.trans hom)
          obtain ⟨e, he, hb⟩ := Array.any_eq_true'.1 hb2
          simp only [Bool.and_eq_true, beq_iff_eq] at hb
          have h1 := hmall e he hb.1
          rw [hb.2] at h1
          rcases Nat.lt_or_ge i listed.size with h' | h'
          · simp [h'] at h1 hiun; rw [hiun] at h1; cases h1
          · simp [Array.getElem?_eq_none h'] at h1
        · exfalso
          subst h
          obtain rfl := Option.some.inj (ho3.symm.trans hom)
          obtain ⟨e, he, hb⟩ := Array.any_eq_true'.1 hb3
          simp only [Bool.and_eq_true, beq_iff_eq] at hb
          have h1 := hmall e he hb.1
          rw [hb.2] at h1
          obtain ⟨e2, he2, hb2'⟩ := Array.any_eq_true'.1 hb2
          simp only [Bool.and_eq_true, beq_iff_eq] at hb2'
          have h3 := hc.2 (i + 1) o2 ho2 h1 e2 he2 hb2'.1
          rw [hb2'.2] at h3
          rcases Nat.lt_or_ge i listed.size with h' | h'
          · simp [h'] at h3 hiun; rw [hiun] at h3; cases h3
          · simp [Array.getElem?_eq_none h'] at h3
        · exact h
      have hc2 := closed_set hc hi
      have key := listed_needsN hc2 n (l := [i]) (fun k hk hks => by
        obtain rfl := List.mem_singleton.1 hk
        have hs2 := hc.1
        simp only [Array.getD_eq_getD_getElem?]
        rw [Array.getElem?_setIfInBounds_self_of_lt (by omega)]
        rfl) m hmem hms
      have hs3 := hc.1
      have hlt : m < listed.size := by omega
      simp only [Array.getD_eq_getD_getElem?] at key hmun
      rw [Array.getElem?_setIfInBounds_ne (Ne.symm hmN)] at key
      rw [Array.getElem?_eq_getElem hlt] at key hmun
      simp at key hmun
      rw [key] at hmun
      cases hmun
    · exact wpOp_mono (fun a' w' h' => wpAny_of_tail3 ho2 hb2 ho3 hb3 n hcov fuel _ a' w' (closed_set hc hi) (getD_set_true hp) h'.1 h'.2) (h2 i hi hiN w hS)
theorem wpAnyV_first {N : Nat} {i : Nat} {oi : Oper} {v : Value} (hiN : i ≠ N) (hi : ops[i]? = some oi) (hsel : ∀ (j : Nat) (o : Oper) cs b, ops[j]? = some o → o.op ≠ .select cs b)
    (hQ : ∀ c a w, Q (.panic c) (a.put oi.dst v) w → Q (.panic c) a w) :
    ∀ (fuel : Nat) (listed : Array Bool) (a : Act),
      (∀ j oj, ops[j]? = some oj → j ≠ i → listed.getD j true = false → (∀ e ∈ oj.after, Region.binds md e = true → e.on ≠ i) → oi.apart ops oj = true) →
      i ∈ Region.ready md ops listed → YieldsS P ops S oi v a →
      wpAnyV P md ops Q S N fuel (listed.setIfInBounds i true) (a.put oi.dst v) → wpAnyV P md ops Q S N (fuel + 1) listed a := by
  intro fuel
  induction fuel with
  | zero =>
    intro listed a _ hr hy H
    refine ⟨⟨i, hr, hiN⟩, fun j hj hjN w hS => ?_⟩
    by_cases hji : j = i
    · subst hji; exact hy.wpOp hi hS fun w' hS' => ⟨hS', H⟩
    · have := ready_mono hj hji
      rw [H.1] at this
      exact absurd (List.mem_singleton.1 this) hjN
  | succ fuel ih =>
    intro listed a hfree hr hy H
    refine ⟨⟨i, hr, hiN⟩, fun j hj hjN w hS => ?_⟩
    by_cases hji : j = i
    · subst hji; exact hy.wpOp hi hS fun w' hS' => ⟨hS', H⟩
    · have h1 := H.2 j (ready_mono hj hji) hjN w hS
      obtain ⟨hjun, oj, hoj, hall⟩ := mem_ready.1 hj
      have hnot : ∀ e ∈ oj.after, Region.binds md e = true → e.on ≠ i := fun e he hb heq => by
        have h1 := hall e he hb
        have h0 := (mem_ready.1 hr).1
        rw [heq] at h1
        rcases Nat.lt_or_ge i listed.size with h' | h'
        · simp [h'] at h0 h1; rw [h0] at h1; cases h1
        · simp [Array.getElem?_eq_none h'] at h1
      have h2 := wpOp_putS hoj (hfree j oj hoj hji hjun hnot) (fun cs b => hsel i oi cs b hi) (fun cs b => hsel j oj cs b hoj) hQ hy h1
      have hfree' : ∀ k ok, ops[k]? = some ok → k ≠ i → (listed.setIfInBounds j true).getD k true = false →
          (∀ e ∈ ok.after, Region.binds md e = true → e.on ≠ i) → oi.apart ops ok = true := fun k ok hk hki hun hno => by
        refine hfree k ok hk hki ?_ hno
        by_cases hjk : j = k
        · subst hjk; exact hjun
        · rw [getD_set_ne true hjk] at hun; exact hun
      refine wpOp_mono (fun a' w' h3 => ⟨h3.2.1, ih (listed.setIfInBounds j true) a' hfree' (ready_mono hr (Ne.symm hji)) h3.1 ?_⟩) h2
      rw [Array.setIfInBounds_comm _ _ hji]
      exact h3.2.2
theorem wpAnyV_go {N : Nat} {i : Nat} {oi : Oper} (dst : Option Tmp) {v : Value} {fuel : Nat} {listed : Array Bool} {a : Act} (hiN : (i == N) = false) (hi : ops[i]? = some oi) (hd : oi.dst = dst)
    (hs : Region.noSelect ops = true) (hf : Region.free md ops listed i = true) (hr : (Region.ready md ops listed).contains i = true)
    (hQ : ∀ c a w, Q (.panic c) (a.put dst v) w → Q (.panic c) a w) (hy : YieldsS P ops S oi v a)
    (h : wpAnyV P md ops Q S N fuel (listed.setIfInBounds i true) (a.put dst v)) : wpAnyV P md ops Q S N (fuel + 1) listed a := by
  subst hd
  exact wpAnyV_first (by simpa using hiN) hi (Region.noSelect_spec hs) hQ fuel listed a (Region.free_spec hi hf) (by simpa using hr) hy h
theorem wpOp_list {i : Nat} {o : Oper} (ho : ops[i]? = some o) {rest : List Oper} {a : Act} {w : World} (h : wpList P ops Q (o :: rest) a w) : wpOp P ops Q i (fun a' w' => wpList P ops Q rest a' w') a w := by
  unfold Go.wpOp
  simp only [ho]
  exact h
theorem wpAny_one {i : Nat} {o : Oper} {rest : List Oper} {fuel : Nat} {listed : Array Bool} {a : Act} {w : World} (ho : ops[i]? = some o) (hr : Region.ready md ops listed = [i]) (h : wpList P ops Q (o :: rest) a w)
    (hn : ∀ a w, wpList P ops Q rest a w → wpAny P md ops Q fuel (listed.setIfInBounds i true) a w) : wpAny P md ops Q (fuel + 1) listed a w := by
  refine ⟨fun h0 => (by rw [hr] at h0; cases h0), fun j hj => ?_⟩
  rw [hr] at hj
  obtain rfl := List.mem_singleton.1 hj
  exact wpOp_mono (fun a' w' h' => hn a' w' h') (wpOp_list ho h)
theorem wpAnyV_done {N : Nat} {o1 o2 o3 : Oper} {listed : Array Bool} {a : Act} (ho : ops[N]? = some o1) (ho2 : ops[N + 1]? = some o2) (ho3 : ops[N + 2]? = some o3) (hr : Region.ready md ops listed = [N]) (hr2 : Region.ready md ops (listed.setIfInBounds N true) = [N + 1])
    (hr3 : Region.ready md ops ((listed.setIfInBounds N true).setIfInBounds (N + 1) true) = [N + 2]) (hr4 : Region.ready md ops (((listed.setIfInBounds N true).setIfInBounds (N + 1) true).setIfInBounds (N + 2) true) = [])
    (h : ∀ w, S w → wpList P ops Q [o1, o2, o3] a w) : wpAnyV P md ops Q S N 0 listed a := by
  refine ⟨hr, fun w hS => wpAny_one ho hr (h w hS) fun a1 w1 h1 => wpAny_one ho2 hr2 h1 fun a2 w2 h2 => wpAny_one ho3 hr3 h2 fun a3 w3 h3 => ⟨hr4, h3⟩⟩
theorem wp_region_tail3 {id : Nat} {a : Act} {w : World} (S : World → Prop) (N : Nat) (n : List Nat) {o0 o2 o3 : Oper} {v0 : Value} (dst0 : Option Tmp) (hm : P.follows .mixedOrders = true) (hS : S w.drew) (hn : ops.size = N + 3) (hN : 0 < N)
    (ho0 : ops[0]? = some o0) (hd0 : o0.dst = dst0) (hs : Region.noSelect ops = true) (hf : Region.free .any ops (Array.replicate ops.size false) 0 = true) (hr : (Region.ready .any ops (Array.replicate ops.size false)).contains 0 = true)
    (hQ : ∀ c a w, Q (.panic c) (a.put dst0 v0) w → Q (.panic c) a w) (hy : Yields P ops o0 v0 a)
    (ho2 : ops[N + 1]? = some o2) (hb2 : (o2.after.any fun e => Region.binds .any e && e.on == N) = true)
    (ho3 : ops[N + 2]? = some o3) (hb3 : (o3.after.any fun e => Region.binds .any e && e.on == N + 1) = true)
    (hcov : ((List.range ops.size).all fun m => m == 0 || m == N || m == N + 1 || m == N + 2 || (needsN .any ops n [N]).contains m) = true)
    (h : wpAnyV P .any ops Q S N (N - 1) ((Array.replicate ops.size false).setIfInBounds 0 true) (a.put dst0 v0)) : (Code.region id ops true).wp P Q a w := by
  subst hd0
  refine wp_region_any hm ?_
  have e : ops.size = (N - 1 + 3) + 1 := by omega
  have hc0 : ClosedL .any ops (Array.replicate ops.size false) := ⟨by simp, fun k ok hk hl => by
    simp only [Array.getD_eq_getD_getElem?, Array.getElem?_replicate] at hl
    split at hl <;> simp at hl⟩
  have hc1 := closed_set hc0 (j := 0) (by simpa using hr)
  have h0 : ((Array.replicate ops.size false).setIfInBounds 0 true).getD 0 false = true := by
    simp only [Array.getD_eq_getD_getElem?]
    rw [Array.getElem?_setIfInBounds_self_of_lt (by simp; omega)]
    rfl
  have key := wpAny_of_tail3 ho2 hb2 ho3 hb3 n hcov (N - 1) _ _ w.drew hc1 h0 hS h
  have := wpAny_take ho0 hs hf hr hQ hy key
  rwa [← e] at this
end
end Go.Cv
