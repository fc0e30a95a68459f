/-
  Texts of the lemmas below the claim, put together: Tail DkD DkE.
-/
import Derived.OrdersHeld
import Derived.Test.YtjnbbfhoegeppaaGreatDoorMKern
import Derived.Test.YtjnbbfhoegeppaaGreatDoorMDkA
import Derived.Deep.CutRange
section
/-
  A region that asks for its order, each of whose operations leaves a known value in every world that meets a condition, and a world that meets it again: one walk in the text's order; the same with one last operation that hangs on all the others and does what it will.
-/
set_option linter.unusedVariables false
set_option linter.unusedSimpArgs false
namespace Go.Cv
open Go Go.RowKit
section
variable {P : Program} {ops : Array Oper} {Q : Exit → Act → World → Prop} {md : Region.Mode} {S : World → Prop}
/-- What an operation's run ends in: the value v, and a world that meets S. -/
def Res (P : Program) (S : World → Prop) (v : Value) : Result Next → Prop
  | .ok (.value u) w' => u = v ∧ S w'
  | .ok .skip w' => v = undef ∧ S w'
  | .ok (.enter f args) w' => Calls P f args w' (fun e w'' => e = .returned v ∧ S w'')
  | _ => False
theorem Res.upon {v : Value} {o : Oper} {a : Act} {next : Act → World → Prop} {r : Result Next} (h : Res P S v r) (hn : ∀ w', S w' → next (a.put o.dst v) w') : o.upon P a next Q r := by
  unfold Res at h
  split at h
  · obtain ⟨rfl, hS⟩ := h
    exact hn _ hS
  · obtain ⟨rfl, hS⟩ := h
    exact hn _ hS
  · refine Calls.mono h fun e w'' he => ?_
    obtain ⟨rfl, hS⟩ := he
    exact hn _ hS
  · exact h.elim
/-- In state a, in every world that meets S, the operation leaves v in its slot, and a world that meets S. -/
def YieldsS (P : Program) (ops : Array Oper) (S : World → Prop) (o : Oper) (v : Value) (a : Act) : Prop :=
  (Region.wanted o (yielded ops a.tmps) = true ∧ ∀ w, S w → Res P S v ((execOp a.eval o).run P w)) ∨
  (Region.wanted o (yielded ops a.tmps) = false ∧ v = undef)
theorem YieldsS.wpOp {i : Nat} {o : Oper} {v : Value} {a : Act} (hi : ops[i]? = some o) (hy : YieldsS P ops S o v a)
    {K : Act → World → Prop} {w : World} (hS : S w) (h : ∀ w', S w' → K (a.put o.dst v) w') : wpOp P ops Q i K a w := by
  unfold Go.wpOp
  simp only [hi]
  rcases hy with ⟨hw, hv⟩ | ⟨hw, rfl⟩
  · simp only [hw, if_true, Oper.wp]
    exact .inl ((hv w hS).upon h)
  · simp only [hw, Bool.false_eq_true, if_false]
    exact h w hS
theorem YieldsS.of_same {o : Oper} {v : Value} {a a' : Act} (hy : YieldsS P ops S o v a) (he : execOp a'.eval o = execOp a.eval o)
    (hw : Region.wanted o (yielded ops a'.tmps) = Region.wanted o (yielded ops a.tmps)) : YieldsS P ops S o v a' := by
  unfold YieldsS at *
  rw [he, hw]
  exact hy
theorem wpOp_putS {j : Nat} {oi oj : Oper} {v : Value} (hj : ops[j]? = some oj) (hap : oi.apart ops oj = true)
    (hsi : ∀ cs b, oi.op ≠ .select cs b) (hsj : ∀ cs b, oj.op ≠ .select cs b)
    (hQ : ∀ c a w, Q (.panic c) (a.put oi.dst v) w → Q (.panic c) a w) {K : Act → World → Prop} {a : Act} {w : World}
    (hy : YieldsS P ops S oi v a) (h : wpOp P ops Q j K (a.put oi.dst v) w) :
    wpOp P ops Q j (fun a' w' => YieldsS P ops S oi v a' ∧ K (a'.put oi.dst v) w') a w := by
  obtain ⟨h1, h2, h3⟩ := Oper.apart_spec hap
  have keep : ∀ (a : Act), YieldsS P ops S oi v a → ∀ u, YieldsS P ops S oi v (a.put oj.dst u) := fun a hy u =>
    hy.of_same (execOp_put oi hsi a oj.dst u h3) (wanted_put oi a oj.dst u h3)
  have keepD : ∀ d, YieldsS P ops S oi v { a with defers := d :: a.defers } := fun d => hy.of_same rfl rfl
  unfold wpOp at *
  simp only [hj] at *
  rw [wanted_put oj a oi.dst v h1] at h
  split
  · rename_i hw
    simp only [hw, if_true] at h
    rcases h with h | ⟨hasks, hlets⟩
    case inr => exact .inr ⟨by unfold Oper.asks at *; rw [execOp_put oj hsj a oi.dst v h1] at hasks; exact hasks, hlets⟩
    refine .inl ?_
    unfold Oper.wp at *
    rw [execOp_put oj hsj a oi.dst v h1] at h
    generalize (execOp a.eval oj).run P w = r at *
    cases r with
    | ok n w' =>
      cases n <;> simp only [Oper.upon] at h ⊢
      case value u => exact ⟨keep a hy u, by rw [← Act.put_comm a v u h2]; exact h⟩
      case skip => exact ⟨keep a hy _, by rw [← Act.put_comm a v undef h2]; exact h⟩
      case defer d =>
        refine ⟨keep _ (keepD d) _, ?_⟩
        rw [← Act.put_comm _ v undef h2, ← Act.put_defers]
        exact h
      case enter f args =>
        refine Calls.mono h fun e w'' he => ?_
        cases e with
        | returned u => exact ⟨keep a hy u, by rw [← Act.put_comm a v u h2]; exact he⟩
        | panicked c => exact hQ _ _ _ he
        | outgrown => exact he
      case row row args => exact Rows.mono h fun u w'' he => ⟨keep a hy u, by rw [← Act.put_comm a v u h2]; exact he⟩
    | halt x w' =>
      cases x <;> simp only [Oper.upon] at h ⊢
      case panic u => exact hQ _ _ _ h
  · rename_i hw
    simp only [hw] at h
    exact ⟨keep a hy _, by rw [← Act.put_comm a v undef h2]; exact h⟩
/-- Whatever order is picked from here on, from any world that meets S. -/
def wpAnyS (P : Program) (md : Region.Mode) (ops : Array Oper) (Q : Exit → Act → World → Prop) (S : World → Prop) : Nat → Array Bool → Act → Prop
  | 0, listed, a => Region.ready md ops listed = [] ∧ ∀ w, S w → Q .normal a w
  | fuel + 1, listed, a =>
    (Region.ready md ops listed = [] → ∀ w, S w → Q .normal a w) ∧
    ∀ i ∈ Region.ready md ops listed, ∀ w, S w → wpOp P ops Q i (fun a' w' => S w' ∧ wpAnyS P md ops Q S fuel (listed.setIfInBounds i true) a') a w
theorem wpAny_of_sure : ∀ (fuel : Nat) (listed : Array Bool) (a : Act) (w : World), S w → wpAnyS P md ops Q S fuel listed a → wpAny P md ops Q fuel listed a w
  | 0, _, _, w, hS, h => ⟨h.1, h.2 w hS⟩
  | fuel + 1, _, _, w, hS, h => ⟨fun h0 => h.1 h0 w hS, fun i hi => wpOp_mono (fun a' w' h' => wpAny_of_sure fuel _ a' w' h'.1 h'.2) (h.2 i hi w hS)⟩
theorem wpAnyS_first {i : Nat} {oi : Oper} {v : Value} (hi : ops[i]? = some oi) (hsel : ∀ (j : Nat) (o : Oper) cs b, ops[j]? = some o → o.op ≠ .select cs b)
    (hQ : ∀ c a w, Q (.panic c) (a.put oi.dst v) w → Q (.panic c) a w) :
    ∀ (fuel : Nat) (listed : Array Bool) (a : Act),
      (∀ j oj, ops[j]? = some oj → j ≠ i → listed.getD j true = false → (∀ e ∈ oj.after, Region.binds md e = true → e.on ≠ i) → oi.apart ops oj = true) →
      i ∈ Region.ready md ops listed → YieldsS P ops S oi v a →
      wpAnyS P md ops Q S fuel (listed.setIfInBounds i true) (a.put oi.dst v) → wpAnyS P md ops Q S (fuel + 1) listed a := by
  intro fuel
  induction fuel with
  | zero =>
    intro listed a _ hr hy H
    refine ⟨fun h => (by rw [h] at hr; cases hr), fun j hj w hS => ?_⟩
    by_cases hji : j = i
    · subst hji; exact hy.wpOp hi hS fun w' hS' => ⟨hS', H⟩
    · have := ready_mono hj hji
      rw [H.1] at this
      cases this
  | succ fuel ih =>
    intro listed a hfree hr hy H
    refine ⟨fun h => (by rw [h] at hr; cases hr), fun j hj w hS => ?_⟩
    by_cases hji : j = i
    · subst hji; exact hy.wpOp hi hS fun w' hS' => ⟨hS', H⟩
    · have h1 := H.2 j (ready_mono hj hji) w hS
      obtain ⟨hjun, oj, hoj, hall⟩ := mem_ready.1 hj
      have hnot : ∀ e ∈ oj.after, Region.binds md e = true → e.on ≠ i := fun e he hb heq => by
        have h1 := hall e he hb
        have h0 := (mem_ready.1 hr).1
        rw [heq] at h1
        rcases Nat.lt_or_ge i listed.size with h' | h'
        · simp [h'] at h0 h1; rw [h0] at h1; cases h1
        · simp [Array.getElem?_eq_none h'] at h1
      have h2 := wpOp_putS hoj (hfree j oj hoj hji hjun hnot) (fun cs b => hsel i oi cs b hi) (fun cs b => hsel j oj cs b hoj) hQ hy h1
      have hfree' : ∀ k ok, ops[k]? = some ok → k ≠ i → (listed.setIfInBounds j true).getD k true = false →
          (∀ e ∈ ok.after, Region.binds md e = true → e.on ≠ i) → oi.apart ops ok = true := fun k ok hk hki hun hno => by
        refine hfree k ok hk hki ?_ hno
        by_cases hjk : j = k
        · subst hjk; exact hjun
        · rw [getD_set_ne true hjk] at hun; exact hun
      refine wpOp_mono (fun a' w' h3 => ⟨h3.2.1, ih (listed.setIfInBounds j true) a' hfree' (ready_mono hr (Ne.symm hji)) h3.1 ?_⟩) h2
      rw [Array.setIfInBounds_comm _ _ hji]
      exact h3.2.2
/-- Take number i: it may come up, leaves v in every world that meets S. -/
theorem wpAnyS_take {i : Nat} {oi : Oper} {v : Value} {fuel : Nat} {listed : Array Bool} {a : Act} (hi : ops[i]? = some oi)
    (hs : Region.noSelect ops = true) (hf : Region.free md ops listed i = true) (hr : (Region.ready md ops listed).contains i = true)
    (hQ : ∀ c a w, Q (.panic c) (a.put oi.dst v) w → Q (.panic c) a w) (hy : YieldsS P ops S oi v a)
    (h : wpAnyS P md ops Q S fuel (listed.setIfInBounds i true) (a.put oi.dst v)) : wpAnyS P md ops Q S (fuel + 1) listed a :=
  wpAnyS_first hi (Region.noSelect_spec hs) hQ fuel listed a (Region.free_spec hi hf) (by simpa using hr) hy h
/-- The same, the slot written out. -/
theorem wpAnyS_go {i : Nat} {oi : Oper} (dst : Option Tmp) {v : Value} {fuel : Nat} {listed : Array Bool} {a : Act} (hi : ops[i]? = some oi) (hd : oi.dst = dst)
    (hs : Region.noSelect ops = true) (hf : Region.free md ops listed i = true) (hr : (Region.ready md ops listed).contains i = true)
    (hQ : ∀ c a w, Q (.panic c) (a.put dst v) w → Q (.panic c) a w) (hy : YieldsS P ops S oi v a)
    (h : wpAnyS P md ops Q S fuel (listed.setIfInBounds i true) (a.put dst v)) : wpAnyS P md ops Q S (fuel + 1) listed a := by
  subst hd
  exact wpAnyS_take hi hs hf hr hQ hy h
theorem wpAnyS_done {listed : Array Bool} {a : Act} (hr : Region.ready md ops listed = []) (h : ∀ w, S w → Q .normal a w) : wpAnyS P md ops Q S 0 listed a := ⟨hr, h⟩
theorem wp_region_sure {id : Nat} {a : Act} {w : World} (S : World → Prop) (hm : P.follows .mixedOrders = true) (hS : S w.drew)
    (h : wpAnyS P .any ops Q S ops.size (Array.replicate ops.size false) a) : (Code.region id ops true).wp P Q a w :=
  wp_region_any hm (wpAny_of_sure _ _ _ _ hS h)
/-- What was listed has all that it hangs on listed. -/
def ClosedL (md : Region.Mode) (ops : Array Oper) (listed : Array Bool) : Prop :=
  listed.size = ops.size ∧ ∀ k ok, ops[k]? = some ok → listed.getD k false = true → ∀ e ∈ ok.after, Region.binds md e = true → listed.getD e.on false = true
/-- What the operations of a list hang on. -/
def needs (md : Region.Mode) (ops : Array Oper) (l : List Nat) : List Nat :=
  l.flatMap fun k => match ops[k]? with
    | some o => (o.after.toList.filter fun e => Region.binds md e).map (·.on)
    | none => []
def needsN (md : Region.Mode) (ops : Array Oper) : List Nat → List Nat → List Nat
  | [], l => l
  | k :: r, l => needsN md ops r (if l.contains k then l ++ needs md ops [k] else l)
theorem closed_set {listed : Array Bool} {j : Nat} (h : ClosedL md ops listed) (hj : j ∈ Region.ready md ops listed) : ClosedL md ops (listed.setIfInBounds j true) := by
  refine ⟨by simpa using h.1, fun k ok hk hl e he hb => ?_⟩
  obtain ⟨hjun, oj, hoj, hall⟩ := mem_ready.1 hj
  have up : ∀ m, listed.getD m false = true → (listed.setIfInBounds j true).getD m false = true := fun m hm => by
    simp only [Array.getD_eq_getD_getElem?, Array.getElem?_setIfInBounds] at hm ⊢
    split
    · rename_i e
      subst e
      split
      · simp
      · rename_i h2
        rw [Array.getElem?_eq_none (by omega)] at hm
        exact hm
    · exact hm
  by_cases hkj : j = k
  · subst hkj
    obtain rfl := Option.some.inj (hoj.symm.trans hk)
    exact up _ (hall e he hb)
  · refine up _ (h.2 k ok hk ?_ e he hb)
    simp only [Array.getD_eq_getD_getElem?, Array.getElem?_setIfInBounds, if_neg hkj] at hl ⊢
    exact hl
theorem listed_needs {listed : Array Bool} (h : ClosedL md ops listed) {l : List Nat} (hl : ∀ k ∈ l, k < ops.size → listed.getD k false = true) : ∀ k ∈ needs md ops l, listed.getD k false = true := by
  intro k hk
  unfold needs at hk
  obtain ⟨m, hm, hk⟩ := List.mem_flatMap.1 hk
  rcases ho : ops[m]? with _ | o
  · rw [ho] at hk; cases hk
  · rw [ho] at hk
    obtain ⟨e, he, rfl⟩ := List.mem_map.1 hk
    obtain ⟨he1, he2⟩ := List.mem_filter.1 he
    have hms : m < ops.size := (Array.getElem?_eq_some_iff.1 ho).1
    exact h.2 m o ho (hl m hm hms) e (by simpa using he1) he2
theorem listed_needsN {listed : Array Bool} (h : ClosedL md ops listed) : ∀ (r : List Nat) {l : List Nat}, (∀ k ∈ l, k < ops.size → listed.getD k false = true) → ∀ k ∈ needsN md ops r l, k < ops.size → listed.getD k false = true
  | [], _, hl => hl
  | m :: r, l, hl => listed_needsN h r (l := if l.contains m then l ++ needs md ops [m] else l) fun k hk hks => by
    split at hk
    · rename_i hm
      rcases List.mem_append.1 hk with h1 | h1
      · exact hl k h1 hks
      · exact listed_needs h (l := [m]) (fun x hx hxs => by
          obtain rfl := List.mem_singleton.1 hx
          exact hl x (by simpa using hm) hxs) k h1
    · exact hl k hk hks
/-- As wpAnyS, ahead of one last operation N. -/
def wpAnyT (P : Program) (md : Region.Mode) (ops : Array Oper) (Q : Exit → Act → World → Prop) (S : World → Prop) (N : Nat) : Nat → Array Bool → Act → Prop
  | 0, listed, a => Region.ready md ops listed = [N] ∧ Region.ready md ops (listed.setIfInBounds N true) = [] ∧ ∀ w, S w → wpOp P ops Q N (fun a' w' => Q .normal a' w') a w
  | fuel + 1, listed, a => (∃ i ∈ Region.ready md ops listed, i ≠ N) ∧
    ∀ i ∈ Region.ready md ops listed, i ≠ N → ∀ w, S w → wpOp P ops Q i (fun a' w' => S w' ∧ wpAnyT P md ops Q S N fuel (listed.setIfInBounds i true) a') a w
theorem wpAny_of_tail {N : Nat} (n : List Nat) (hcov : ((List.range ops.size).all fun m => m == N || (needsN md ops n [N]).contains m) = true) :
    ∀ (fuel : Nat) (listed : Array Bool) (a : Act) (w : World), ClosedL md ops listed → S w → wpAnyT P md ops Q S N fuel listed a → wpAny P md ops Q (fuel + 1) listed a w
  | 0, listed, a, w, hc, hS, h => by
    refine ⟨fun h0 => (by rw [h.1] at h0; cases h0), fun i hi => ?_⟩
    rw [h.1] at hi
    obtain rfl := List.mem_singleton.1 hi
    exact wpOp_mono (fun a' w' h' => ⟨h.2.1, h'⟩) (h.2.2 w hS)
  | fuel + 1, listed, a, w, hc, hS, h => by
    obtain ⟨⟨m, hm, hmN⟩, h2⟩ := h
    refine ⟨fun h0 => (by rw [h0] at hm; cases hm), fun i hi => ?_⟩
    by_cases hiN : i = N
    · exfalso
      subst hiN
      obtain ⟨hmun, om, hom, -⟩ := mem_ready.1 hm
      obtain ⟨hiun, oi, hoi, hall⟩ := mem_ready.1 hi
      have hms : m < ops.size := (Array.getElem?_eq_some_iff.1 hom).1
      have hcov2 := List.all_eq_true.1 hcov m (List.mem_range.2 hms)
      have hmem : m ∈ needsN md ops n [i] := by
        simp only [Bool.or_eq_true, beq_iff_eq, List.contains_iff_mem] at hcov2
        rcases hcov2 with h | h
        · exact absurd h hmN
        · exact h
      have hc2 := closed_set hc hi
      have key := listed_needsN hc2 n (l := [i]) (fun k hk hks => by
        obtain rfl := List.mem_singleton.1 hk
        have hs2 := hc.1
        simp only [Array.getD_eq_getD_getElem?]
        rw [Array.getElem?_setIfInBounds_self_of_lt (by omega)]
        rfl) m hmem hms
      have hs3 := hc.1
      have hlt : m < listed.size := by omega
      simp only [Array.getD_eq_getD_getElem?] at key hmun
      rw [Array.getElem?_setIfInBounds_ne (Ne.symm hmN)] at key
      rw [Array.getElem?_eq_getElem hlt] at key hmun
      simp at key hmun
      rw [key] at hmun
      cases hmun
    · exact wpOp_mono (fun a' w' h' => wpAny_of_tail n hcov fuel _ a' w' (closed_set hc hi) h'.1 h'.2) (h2 i hi hiN w hS)
theorem wpAnyT_first {N : Nat} {i : Nat} {oi : Oper} {v : Value} (hiN : i ≠ N) (hi : ops[i]? = some oi) (hsel : ∀ (j : Nat) (o : Oper) cs b, ops[j]? = some o → o.op ≠ .select cs b)
    (hQ : ∀ c a w, Q (.panic c) (a.put oi.dst v) w → Q (.panic c) a w) :
    ∀ (fuel : Nat) (listed : Array Bool) (a : Act),
      (∀ j oj, ops[j]? = some oj → j ≠ i → listed.getD j true = false → (∀ e ∈ oj.after, Region.binds md e = true → e.on ≠ i) → oi.apart ops oj = true) →
      i ∈ Region.ready md ops listed → YieldsS P ops S oi v a →
      wpAnyT P md ops Q S N fuel (listed.setIfInBounds i true) (a.put oi.dst v) → wpAnyT P md ops Q S N (fuel + 1) listed a := by
  intro fuel
  induction fuel with
  | zero =>
    intro listed a _ hr hy H
    refine ⟨⟨i, hr, hiN⟩, fun j hj hjN w hS => ?_⟩
    by_cases hji : j = i
    · subst hji; exact hy.wpOp hi hS fun w' hS' => ⟨hS', H⟩
    · have := ready_mono hj hji
      rw [H.1] at this
      exact absurd (List.mem_singleton.1 this) hjN
  | succ fuel ih =>
    intro listed a hfree hr hy H
    refine ⟨⟨i, hr, hiN⟩, fun j hj hjN w hS => ?_⟩
    by_cases hji : j = i
    · subst hji; exact hy.wpOp hi hS fun w' hS' => ⟨hS', H⟩
    · have h1 := H.2 j (ready_mono hj hji) hjN w hS
      obtain ⟨hjun, oj, hoj, hall⟩ := mem_ready.1 hj
      have hnot : ∀ e ∈ oj.after, Region.binds md e = true → e.on ≠ i := fun e he hb heq => by
        have h1 := hall e he hb
        have h0 := (mem_ready.1 hr).1
        rw [heq] at h1
        rcases Nat.lt_or_ge i listed.size with h' | h'
        · simp [h'] at h0 h1; rw [h0] at h1; cases h1
        · simp [Array.getElem?_eq_none h'] at h1
      have h2 := wpOp_putS hoj (hfree j oj hoj hji hjun hnot) (fun cs b => hsel i oi cs b hi) (fun cs b => hsel j oj cs b hoj) hQ hy h1
      have hfree' : ∀ k ok, ops[k]? = some ok → k ≠ i → (listed.setIfInBounds j true).getD k true = false →
          (∀ e ∈ ok.after, Region.binds md e = true → e.on ≠ i) → oi.apart ops ok = true := fun k ok hk hki hun hno => by
        refine hfree k ok hk hki ?_ hno
        by_cases hjk : j = k
        · subst hjk; exact hjun
        · rw [getD_set_ne true hjk] at hun; exact hun
      refine wpOp_mono (fun a' w' h3 => ⟨h3.2.1, ih (listed.setIfInBounds j true) a' hfree' (ready_mono hr (Ne.symm hji)) h3.1 ?_⟩) h2
      rw [Array.setIfInBounds_comm _ _ hji]
      exact h3.2.2
theorem wpAnyT_go {N : Nat} {i : Nat} {oi : Oper} (dst : Option Tmp) {v : Value} {fuel : Nat} {listed : Array Bool} {a : Act} (hiN : (i == N) = false) (hi : ops[i]? = some oi) (hd : oi.dst = dst)
    (hs : Region.noSelect ops = true) (hf : Region.free md ops listed i = true) (hr : (Region.ready md ops listed).contains i = true)
    (hQ : ∀ c a w, Q (.panic c) (a.put dst v) w → Q (.panic c) a w) (hy : YieldsS P ops S oi v a)
    (h : wpAnyT P md ops Q S N fuel (listed.setIfInBounds i true) (a.put dst v)) : wpAnyT P md ops Q S N (fuel + 1) listed a := by
  subst hd
  exact wpAnyT_first (by simpa using hiN) hi (Region.noSelect_spec hs) hQ fuel listed a (Region.free_spec hi hf) (by simpa using hr) hy h
theorem wpAnyT_done {N : Nat} {o : Oper} {listed : Array Bool} {a : Act} (ho : ops[N]? = some o) (hr : Region.ready md ops listed = [N]) (hr2 : Region.ready md ops (listed.setIfInBounds N true) = [])
    (hw : Region.wanted o (yielded ops a.tmps) = true) (h : ∀ w, S w → Oper.wp P o a w (fun a' w' => Q .normal a' w') Q) : wpAnyT P md ops Q S N 0 listed a := by
  refine ⟨hr, hr2, fun w hS => ?_⟩
  unfold Go.wpOp
  simp only [ho, hw, if_true]
  exact .inl (h w hS)
theorem wp_region_tail {id : Nat} {a : Act} {w : World} (S : World → Prop) (N : Nat) (n : List Nat) (hm : P.follows .mixedOrders = true) (hS : S w.drew) (hn : ops.size = N + 1)
    (hcov : ((List.range ops.size).all fun m => m == N || (needsN .any ops n [N]).contains m) = true)
    (h : wpAnyT P .any ops Q S N N (Array.replicate ops.size false) a) : (Code.region id ops true).wp P Q a w := by
  refine wp_region_any hm ?_
  rw [hn]
  refine wpAny_of_tail n hcov N _ a w.drew ⟨by simp [hn], fun k ok hk hl => ?_⟩ hS (by rw [← hn]; exact h)
  simp only [Array.getD_eq_getD_getElem?, Array.getElem?_replicate] at hl
  split at hl <;> simp at hl
end
end Go.Cv
end
section
/-
  Walks of the disk: sync and append.
-/
set_option linter.unusedSimpArgs false
set_option linter.unusedVariables false
namespace Go.Proofs.YtjnbbfhoegeppaaGreatDoor
open Go.RowKit Go.Cv Go.Cv.Dk
/-- What a request leaves. -/
def Done (w : World) (B d mb : Nat) (L : List GF) (S' : DS) (w' : World) : Prop := ∃ L', DiskAt w' B d mb S' L' ∧ Stp (foot d mb L) (foot d mb L') w w' ∧ L'.length ≤ L.length + 1
theorem Done.same {w : World} {B d mb : Nat} {L : List GF} {S : DS} (h : DiskAt w B d mb S L) : Done w B d mb L S w := ⟨L, h, Stp.refl _ _, by omega⟩
theorem Done.d {w w' : World} {B d mb : Nat} {L : List GF} {S : DS} (h : DiskAt w' B d mb S L) (hk : Keep [d] w w') : Done w B d mb L S w' := ⟨L, h, ⟨hk.mono (by simp [foot]), fun x hx => .inl hx⟩, by omega⟩
theorem Done.after {w w1 w' : World} {B d mb : Nat} {L L1 : List GF} {S : DS} (hs : Stp (foot d mb L) (foot d mb L1) w w1) (hl : L1.length ≤ L.length) (h : Done w1 B d mb L1 S w') : Done w B d mb L S w' := by
  obtain ⟨L', hD, hS, hll⟩ := h
  exact ⟨L', hD, hs.trans hS, by omega⟩
theorem stp_d {w w' : World} {d mb : Nat} {L : List GF} (hk : Keep [d] w w') : Stp (foot d mb L) (foot d mb L) w w' := ⟨hk.mono (by simp [foot]), fun x hx => .inl hx⟩
theorem errV_ne {n : Nat} (h : n ≠ 0) : errV n = .iface 48 (.int .i64 (n : Nat)) := if_neg h
theorem find_bad (B d mb : Nat) (S : DS) (L : List GF) (s : ByteArray) (w : World) (h : DiskAt w B d mb S L) (hs : s.size ≤ 281474976710656) (hf : fnd S s.data.toList ≠ 0) :
    Calls Tryz.prog 49 #[.pointer (some ⟨d, 0, none⟩), .string s] w fun e w' => e = .returned (.tuple #[.pointer none, .iface 48 (.int .i64 (fnd S s.data.toList : Nat))]) ∧ w = w' := by
  cases ho : S.off
  · rcases hq : Dk.get S.l s.data.toList with _ | f
    · have e : fnd S s.data.toList = 9 := by unfold fnd has; rw [ho, hq]; rfl
      rw [e]
      exact find_none B d mb S L s w h hs ho hq
    · exfalso; exact hf (by unfold fnd has; rw [ho, hq]; rfl)
  · have e : fnd S s.data.toList = 11 := by unfold fnd; rw [ho]; rfl
    rw [e]
    exact find_off B d mb S L s w h ho
theorem stepd_zero {S : DS} (h : S.bud = 0) : stepd S wrap64 = (false, (stepd S wrap64).2) := by unfold stepd; rw [if_pos h]
theorem stepd_one {S : DS} (h : S.bud ≠ 0) : stepd S wrap64 = (true, (stepd S wrap64).2) := by unfold stepd; rw [if_neg h]
theorem ok_upd {S : DS} (h : S.Ok) {l1 l2 : List PF} {f f' : PF} (hl : S.l = l1 ++ f :: l2) (hn : f'.nm = f.nm) (hs : f'.sy ≤ f'.b.length) (hu : (used l1 : Int) + f'.b.length + used l2 ≤ S.room) : DS.Ok { S with l := l1 ++ f' :: l2 } := by
  refine ⟨h.r0, h.r1, h.b0, h.b1, ?_, fun x hx => ?_, fun x hx => ?_, ?_⟩
  · show (used (l1 ++ f' :: l2) : Int) ≤ _
    rw [used_app, used_cons]
    show _ ≤ S.room
    omega
  · rcases List.mem_append.1 hx with hx | hx
    · exact h.nm x (by rw [hl]; simp [hx])
    · rcases List.mem_cons.1 hx with rfl | hx
      · rw [hn]; exact h.nm f (by rw [hl]; simp)
      · exact h.nm x (by rw [hl]; simp [hx])
  · rcases List.mem_append.1 hx with hx | hx
    · exact h.sy x (by rw [hl]; simp [hx])
    · rcases List.mem_cons.1 hx with rfl | hx
      · exact hs
      · exact h.sy x (by rw [hl]; simp [hx])
  · have hr := h.ris
    rw [hl] at hr
    have e : Ris id ((l1 ++ f :: l2).map PF.nm) := (Ris.map (f := PF.nm) (fun _ => rfl)).2 hr
    refine (Ris.map (f := PF.nm) (key' := id) (fun _ => rfl)).1 ?_
    rw [List.map_append, List.map_cons, hn]
    rw [List.map_append, List.map_cons] at e
    exact e
theorem upd_L {S : DS} {l1 l2 : List GF} {g g' : GF} {x : List UInt8} {u : PF → PF} (hl : S.l = (l1 ++ g :: l2).map GF.f) (h1 : ∀ z ∈ l1, z.f.nm ≠ x) (h2 : ∀ z ∈ l2, z.f.nm ≠ x) (hg : g.f.nm = x) (hu : g'.f = u g.f) :
    Dk.upd S.l x u = (l1 ++ g' :: l2).map GF.f := by
  rw [hl, List.map_append, List.map_cons, List.map_append, List.map_cons, upd_split u (fun z hz => ?_) (fun z hz => ?_) hg, hu]
  · obtain ⟨y, hy, rfl⟩ := List.mem_map.1 hz
    exact h1 y hy
  · obtain ⟨y, hy, rfl⟩ := List.mem_map.1 hz
    exact h2 y hy
set_option maxHeartbeats 800000 in
theorem sync_any (B d mb : Nat) (S : DS) (L : List GF) (s : ByteArray) (w : World) (h : DiskAt w B d mb S L) (hs : s.size ≤ 281474976710656) :
    Calls Tryz.prog 43 #[.pointer (some ⟨d, 0, none⟩), .string s] w fun e w' => e = .returned (errV (syn wrap64 S s.data.toList).1) ∧ Done w B d mb L (syn wrap64 S s.data.toList).2 w' := by
  refine calls_hid fun G hG => ?_
  by_cases hf : fnd S s.data.toList = 0
  · obtain ⟨ho, f, hq⟩ := fnd_ok hf
    obtain ⟨l1, l2, g, rfl, rfl, hnm, h1, h2⟩ := h.isome hq
    have hF := find_ok B d mb S l1 l2 g s w h hs ho h1 hnm
    have hT := step_any B d mb S (l1 ++ g :: l2) w h
    have hok := (stepd_ok h.ok wrap64)
    have hfl := (h.fl g (by simp)).sy
    have hls : (stepd S wrap64).2.l = (l1 ++ g :: l2).map GF.f := by rw [(stepd_l S wrap64).1]; exact h.ls
    by_cases hb : S.bud = 0
    · rw [stepd_zero hb] at hT
      have hg : ∀ w', Done w B d mb (l1 ++ g :: l2) (stepd S wrap64).2 w' → G (.returned (errV 11)) w' := fun w' hd => hG.out _ _ (by
        have e : syn wrap64 S s.data.toList = (11, (stepd S wrap64).2) := by unfold syn; rw [if_neg (by simp [hf]), stepd_zero hb]; rfl
        rw [e]; exact ⟨rfl, hd⟩)
      generalize (stepd S wrap64).2 = S1 at *
      replace hg := Lib.hid hg
      clear hG h hf ho hq hnm h1 h2 hb hok hls hfl
      go_enter Tryz.func43, Tryz.ntmps43
      go_wp2_with (first
        | (go_at_call 49; with_reducible refine hF.mono ?_; rintro e w' ⟨rfl, rfl⟩)
        | (go_at_call 63; with_reducible refine hT.mono ?_; rintro e w1 ⟨rfl, hD1, hk1⟩))
      exact hg.out _ (Done.d hD1 hk1)
    · rw [stepd_one hb] at hT
      have hg : ∀ w', Done w B d mb (l1 ++ g :: l2) { (stepd S wrap64).2 with l := Dk.upd S.l s.data.toList fun f => { f with sy := f.b.length } } w' → G (.returned (errV 0)) w' := fun w' hd => hG.out _ _ (by
        have e : syn wrap64 S s.data.toList = (0, { (stepd S wrap64).2 with l := Dk.upd S.l s.data.toList fun f => { f with sy := f.b.length } }) := by unfold syn; rw [if_neg (by simp [hf]), stepd_one hb]; rfl
        rw [e]; exact ⟨rfl, hd⟩)
      have hul := upd_L (g' := ⟨{ g.f with sy := g.f.b.length }, g.k, g.A, g.c⟩) (u := fun f => { f with sy := f.b.length }) h.ls h1 h2 hnm rfl
      rw [hul] at hg
      clear hul
      generalize (stepd S wrap64).2 = S1 at *
      have hok2 : DS.Ok { S1 with l := (l1 ++ ⟨{ g.f with sy := g.f.b.length }, g.k, g.A, g.c⟩ :: l2).map GF.f } := by
        rw [List.map_append, List.map_cons] at hls ⊢
        refine ok_upd hok hls rfl (Nat.le_refl _) ?_
        have := hok.u
        rw [hls, used_app, used_cons] at this
        show (used _ : Int) + (g.f.b.length : Nat) + (used _ : Nat) ≤ S1.room
        omega
      have hgm : g ∈ l1 ++ g :: l2 := by simp
      replace hg := Lib.hid hg
      clear hG h hf ho hq hnm h1 h2 hb hok hls hfl
      go_enter Tryz.func43, Tryz.ntmps43
      go_wp2_with (first
        | (go_at_call 49; with_reducible refine hF.mono ?_; rintro e w' ⟨rfl, rfl⟩)
        | (go_at_call 63; with_reducible refine hT.mono ?_; rintro e w1 ⟨rfl, hD1, hk1⟩; have hFl := Lib.hid (hD1.fl g hgm); have e0 : w1.cell? ⟨g.k, 0, none⟩ = some (.slice g.A g.f.b.length g.c) := hFl.out.row.cell (i := 0) (by simp); have e1 : w1.cell? ⟨g.k, 1, none⟩ = some (.int .i64 g.f.sy) := hFl.out.row.cell (i := 1) (by simp); have f1 := hFl.out.row.fro 1; replace hD1 := Lib.hid hD1))
      have hk2 := Keep.setCell w1 ⟨g.k, 1, none⟩ (.int .i64 (g.f.b.length : Nat))
      have hr2 := hFl.out.row.set 1 (.int .i64 (g.f.b.length : Nat))
      have hsw := hD1.out.swap (g' := ⟨{ g.f with sy := g.f.b.length }, g.k, g.A, g.c⟩) (S' := { S1 with l := (l1 ++ ⟨{ g.f with sy := g.f.b.length }, g.k, g.A, g.c⟩ :: l2).map GF.f }) hk2 (by simp [ownB]) rfl rfl
        (FS.file (g := ⟨{ g.f with sy := g.f.b.length }, g.k, g.A, g.c⟩) (hFl.out.fs.keep hk2 (fun x hx hm => by
          have := (hD1.out.sep.of).2.1
          rw [List.mem_singleton.1 hm] at hx
          exact this hx)) hr2 (Nat.le_refl _) hFl.out.ge.1 hFl.out.len) (fun x hx => .inl hx) rfl rfl hok2
      exact hg.out _ ⟨_, hsw.1, (stp_d hk1).trans hsw.2, by simp⟩
  · have hF := find_bad B d mb S L s w h hs hf
    have hg : G (.returned (errV (fnd S s.data.toList))) w := hG.out _ _ (by
      have e : syn wrap64 S s.data.toList = (fnd S s.data.toList, S) := by unfold syn; rw [if_pos hf]
      rw [e]; exact ⟨rfl, Done.same h⟩)
    rw [errV_ne hf] at hg
    clear hG h hf
    generalize ((fnd S s.data.toList : Nat) : Int) = q at *
    go_enter Tryz.func43, Tryz.ntmps43
    go_wp2_with (go_at_call 49; with_reducible refine hF.mono ?_; rintro e w' ⟨rfl, rfl⟩)
    exact hg
end Go.Proofs.YtjnbbfhoegeppaaGreatDoor
end
section
/-
  Walks of the disk: append.
-/
set_option linter.unusedSimpArgs false
set_option linter.unusedVariables false
namespace Go.Proofs.YtjnbbfhoegeppaaGreatDoor
open Go.RowKit Go.Cv Go.Cv.Dk
theorem ok_add {S : DS} (h : S.Ok) {x : List UInt8} (hx : nameOk x = true) (hn : Dk.get S.l x = none) : DS.Ok { S with l := ins PF.nm ⟨x, [], 0⟩ S.l } := by
  have hm := ins_mem PF.nm ⟨x, [], 0⟩ S.l
  refine ⟨h.r0, h.r1, h.b0, h.b1, ?_, fun y hy => ?_, fun y hy => ?_, h.ris.ins fun y hy => get_none hn y hy⟩
  · show (used (ins PF.nm ⟨x, [], 0⟩ S.l) : Int) ≤ S.room
    obtain ⟨l1, l2, e1, e2⟩ := ins_split PF.nm ⟨x, [], 0⟩ S.l
    have := h.u
    rw [e2, used_app, used_cons]
    rw [e1, used_app] at this
    show ((used l1 + (0 + used l2) : Nat) : Int) ≤ S.room
    omega
  · rcases (hm y).1 hy with rfl | hy
    · exact hx
    · exact h.nm y hy
  · rcases (hm y).1 hy with rfl | hy
    · exact Nat.le_refl _
    · exact h.sy y hy
/-- A file comes. -/
theorem DiskAt.add {w : World} {B d mb : Nat} {S : DS} {L : List GF} (h : DiskAt w B d mb S L) {s : ByteArray} (hs : s.size ≤ 281474976710656) (hx : nameOk s.data.toList = true) (hn : Dk.get S.l s.data.toList = none) (hL : L.length < maxLen) :
    ∃ w' l1 l2, (Instr.mapUpdate 110 (.map (some mb)) (.string s) (.pointer (some ⟨w.heap.size, 0, none⟩))).run Tryz.prog (w.alloc (.cells #[.slice none 0 0, .int .i64 0] 96)) = .ok () w' ∧ L = l1 ++ l2 ∧
      DiskAt w' B d mb { S with l := ins PF.nm ⟨s.data.toList, [], 0⟩ S.l } (l1 ++ ⟨⟨s.data.toList, [], 0⟩, w.heap.size, none, 0⟩ :: l2) ∧
      Stp (foot d mb L) (foot d mb (l1 ++ ⟨⟨s.data.toList, [], 0⟩, w.heap.size, none, 0⟩ :: l2)) w w' ∧ (∀ z ∈ l1 ++ l2, z.f.nm ≠ s.data.toList) := by
  have hnn := h.inone hn
  have hlt := h.lt
  have hE := ext_alloc w (.cells #[.slice none 0 0, .int .i64 0] 96)
  have h1 := h.ext hE
  obtain ⟨w', hrun, hM, hk⟩ := h1.map.store (s := s) (by unfold maxLen; omega) hL ⟨⟨s.data.toList, [], 0⟩, w.heap.size, none, 0⟩ rfl
  rw [filter_all_ (fun z hz => by simpa using hnn z hz)] at hM
  obtain ⟨l1, l2, e1, e2⟩ := ins_split GF.nm (⟨⟨s.data.toList, [], 0⟩, w.heap.size, none, 0⟩ : GF) L
  rw [e2] at hM
  have hsz : (w.alloc (.cells #[.slice none 0 0, .int .i64 0] 96)).heap.size = w.heap.size + 1 := by simp
  have hmne : ∀ x, x ∈ foot d mb L → x ≠ mb → x ∉ [mb] := fun x _ hne hm => hne (List.mem_singleton.1 hm)
  have hin : ∀ z ∈ L, ∀ x ∈ ownB z, x ∈ foot d mb L := fun z hz x hx => by
    simp only [foot, List.mem_cons, List.mem_flatMap]
    exact .inr (.inr ⟨z, hz, hx⟩)
  have hmz : ∀ z ∈ L, mb ∉ ownB z := fun z hz => (h.sep.each z hz).2.2
  have hE2 : Stp (foot d mb L) (foot d mb (l1 ++ ⟨⟨s.data.toList, [], 0⟩, w.heap.size, none, 0⟩ :: l2)) w w' := ⟨(Keep.of_ext hE).trans hk fun x hx => .inl (by rw [List.mem_singleton.1 hx]; simp [foot]), fun x hx => by
    simp only [foot, List.mem_cons, List.mem_flatMap] at hx
    rcases hx with rfl | rfl | ⟨z, hz, hx⟩
    · exact .inl (by simp [foot])
    · exact .inl (by simp [foot])
    · rcases List.mem_append.1 hz with hz | hz
      · exact .inl (hin z (by rw [e1]; simp [hz]) x hx)
      · rcases List.mem_cons.1 hz with rfl | hz
        · simp [ownB, rowOf] at hx
          exact .inr (by omega)
        · exact .inl (hin z (by rw [e1]; simp [hz]) x hx)⟩
  refine ⟨w', l1, l2, hrun, e1, ⟨?_, hM, fun z hz => ?_, ?_, ?_, h.ge, ok_add h.ok hx hn⟩, hE2, fun z hz => hnn z (by rw [e1]; exact hz)⟩
  · exact h1.row.keep hk (hmne d (by simp [foot]) h.sep.dm)
  · rcases List.mem_append.1 hz with hz | hz
    · exact (h1.fl z (by rw [e1]; simp [hz])).keep hk fun x hx => hmne x (hin z (by rw [e1]; simp [hz]) x hx) fun e => hmz z (by rw [e1]; simp [hz]) (e ▸ hx)
    · rcases List.mem_cons.1 hz with rfl | hz
      · refine ⟨?_, Rd.nil_, Nat.le_refl _, by show 0 ≤ maxLen; omega, Nat.le_refl _, .inl (World.ownsRow_nil _ _ _ 1), fun _ => ⟨rfl, rfl⟩, by simp, ?_, by simp [rowOf]⟩
        · have := Row.alloc w [.slice none 0 0, .int .i64 0] 96
          exact this.keep hk (fun hm => by
            have h3 := List.mem_singleton.1 hm
            have := hlt mb (by simp [foot])
            omega)
        · show B ≤ w.heap.size
          have := hlt d (by simp [foot])
          have := h.ge.1
          omega
      · exact (h1.fl z (by rw [e1]; simp [hz])).keep hk fun x hx => hmne x (hin z (by rw [e1]; simp [hz]) x hx) fun e => hmz z (by rw [e1]; simp [hz]) (e ▸ hx)
  · have hsp := h.sep
    rw [e1] at hsp
    refine hsp.add (by simp [rowOf]) fun x hx => ?_
    simp [ownB, rowOf] at hx
    subst hx
    refine ⟨fun e => ?_, fun e => ?_, fun z hz hm => ?_⟩
    · have := hlt d (by simp [foot]); omega
    · have := hlt mb (by simp [foot]); omega
    · have := hlt _ (hin z (by rw [e1]; exact hz) _ hm); omega
  · show ins PF.nm ⟨s.data.toList, [], 0⟩ S.l = _
    rw [h.ls, ← e2]
    exact (ins_map (key := GF.nm) (key' := PF.nm) (f := GF.f) (fun _ => rfl) ⟨⟨s.data.toList, [], 0⟩, w.heap.size, none, 0⟩ L).symm
set_option maxRecDepth 4000 in
set_option maxHeartbeats 1600000 in
theorem append_no (B d mb : Nat) (S : DS) (L : List GF) (s : ByteArray) (A : Option Addr) (n c : Nat) (b : List UInt8) (w : World) (h : Hid (DiskAt w B d mb S L)) (hs : s.size ≤ 281474976710656) (hl : Hid (b.length = n)) (hn47 : n ≤ 281474976710656) (hf : (app wrap64 S s.data.toList b).1 ≠ 0) (hq : S.off = true ∨ nameOk s.data.toList = false ∨ (n : Int) > S.room - used S.l) :
    Calls Tryz.prog 27 #[.pointer (some ⟨d, 0, none⟩), .string s, .slice A n c] w fun e w' => e = .returned (errV (app wrap64 S s.data.toList b).1) ∧ Ext w w' ∧ (app wrap64 S s.data.toList b).2 = S := by
  refine calls_hid fun G hG => ?_
  have hN := named_any s w hs
  by_cases h1 : nameOk s.data.toList = false
  · have hg : ∀ w', Ext w w' → G (.returned (errV 1)) w' := fun w' hx => hG.out _ _ (by
      have e : app wrap64 S s.data.toList b = (1, S) := by unfold app; rw [if_pos h1]
      rw [e]; exact ⟨rfl, hx, rfl⟩)
    rw [h1] at hN
    replace hg := Lib.hid hg
    clear hG h hf hq h1
    go_enter Tryz.func27, Tryz.ntmps27
    go_wp2_with (go_at_call 62; with_reducible refine hN.mono ?_; rintro e w' ⟨rfl, hx0⟩)
    exact hg.out _ hx0
  · replace h1 : nameOk s.data.toList = true := by simpa using h1
    rw [h1] at hN
    by_cases ho : S.off = true
    · have hg : ∀ w', Ext w w' → G (.returned (errV 11)) w' := fun w' hx => hG.out _ _ (by
        have e : app wrap64 S s.data.toList b = (11, S) := by unfold app; rw [if_neg (by rw [h1]; simp), if_pos ho]
        rw [e]; exact ⟨rfl, hx, rfl⟩)
      replace hg := Lib.hid hg
      clear hG hf hq h1
      go_enter Tryz.func27, Tryz.ntmps27
      go_wp2_with (go_at_call 62; with_reducible refine hN.mono ?_; rintro e w' ⟨rfl, hx0⟩; have c2 : w'.cell? ⟨d, 2, none⟩ = some (.bool S.off) := (h.out.ext hx0).row.cell (i := 2) (by simp); rw [ho] at c2)
      exact hg.out _ hx0
    · replace ho : S.off = false := by simpa using ho
      have h3 : (n : Int) > S.room - used S.l := by
        rcases hq with h3 | h3 | h3
        · rw [ho] at h3; cases h3
        · rw [h1] at h3; cases h3
        · exact h3
      have hg : ∀ w', Ext w w' → G (.returned (errV 12)) w' := fun w' hx => hG.out _ _ (by
        have e : app wrap64 S s.data.toList b = (12, S) := by unfold app; rw [if_neg (by rw [h1]; simp), if_neg (by rw [ho]; simp), if_pos (by rw [hl.out]; exact h3)]
        rw [e]; exact ⟨rfl, hx, rfl⟩)
      have hu := h.out.ok.u
      have hr1 := h.out.ok.r1
      have hr0 := h.out.ok.r0
      have hwr : IntKind.i64.wrap (S.room - (used S.l : Nat)) = S.room - (used S.l : Nat) := IntWalk.i64_in _ (by omega)
      replace hg := Lib.hid hg
      clear hG hf hq h1
      go_enter Tryz.func27, Tryz.ntmps27
      go_upto_region 5 with (go_at_call 62; with_reducible refine hN.mono ?_; rintro e w0 ⟨rfl, hx0⟩; have c2 : w0.cell? ⟨d, 2, none⟩ = some (.bool S.off) := (h.out.ext hx0).row.cell (i := 2) (by simp); rw [ho] at c2)
      refine wp_region_sure (fun w' => Ext w0 w') (by kernel_rfl) (ext_drew _) ?_
      refine wpAnyS_go (i := 0) (some 21) (v := ?_) rfl rfl (by kernel_rfl) (by kernel_rfl) (by kernel_rfl) (fun _ _ _ h => h) (.inl ⟨by rfl, fun w hS => ?_⟩) ?_
      rotate_left
      · (try go_simp)
        refine ⟨?_, hS⟩
        with_reducible rfl
      simp only [Act.put, List.setIfInBounds_toArray, List.set_cons_zero, List.set_cons_succ]
      refine wpAnyS_go (i := 1) (some 22) (v := ?_) rfl rfl (by kernel_rfl) (by kernel_rfl) (by kernel_rfl) (fun _ _ _ h => h) (.inl ⟨by rfl, fun w hS => ?_⟩) ?_
      rotate_left
      · (try go_simp)
        refine ⟨?_, hS⟩
        with_reducible rfl
      simp only [Act.put, List.setIfInBounds_toArray, List.set_cons_zero, List.set_cons_succ]
      refine wpAnyS_go (i := 2) (some 23) (v := ?_) rfl rfl (by kernel_rfl) (by kernel_rfl) (by kernel_rfl) (fun _ _ _ h => h) (.inl ⟨by rfl, fun w hS => ?_⟩) ?_
      rotate_left
      · (try go_simp)
        refine ⟨?_, hS⟩
        with_reducible rfl
      simp only [Act.put, List.setIfInBounds_toArray, List.set_cons_zero, List.set_cons_succ]
      refine wpAnyS_go (i := 3) (some 24) (v := ?_) rfl rfl (by kernel_rfl) (by kernel_rfl) (by kernel_rfl) (fun _ _ _ h => h) (.inl ⟨by rfl, fun w hS => ?_⟩) ?_
      rotate_left
      · (try go_simp)
        refine ⟨?_, hS⟩
        with_reducible rfl
      simp only [Act.put, List.setIfInBounds_toArray, List.set_cons_zero, List.set_cons_succ]
      refine wpAnyS_go (i := 4) (some 25) (v := ?_) rfl rfl (by kernel_rfl) (by kernel_rfl) (by kernel_rfl) (fun _ _ _ h => h) (.inl ⟨by rfl, fun w hS => ?_⟩) ?_
      rotate_left
      · (try go_simp)
        refine ⟨?_, hS⟩
        with_reducible rfl
      simp only [Act.put, List.setIfInBounds_toArray, List.set_cons_zero, List.set_cons_succ]
      refine wpAnyS_go (i := 5) (some 26) (v := ?_) rfl rfl (by kernel_rfl) (by kernel_rfl) (by kernel_rfl) (fun _ _ _ h => h) (.inl ⟨by rfl, fun w hS => ?_⟩) ?_
      rotate_left
      · have e0 := (h.out.ext (hx0.trans hS)).row.cell (i := 0) (by simp)
        go_simp
        refine ⟨?_, hS⟩
        with_reducible rfl
      simp only [Act.put, List.setIfInBounds_toArray, List.set_cons_zero, List.set_cons_succ]
      refine wpAnyS_go (i := 6) (some 27) (v := ?_) rfl rfl (by kernel_rfl) (by kernel_rfl) (by kernel_rfl) (fun _ _ _ h => h) (.inl ⟨by rfl, fun w hS => ?_⟩) ?_
      rotate_left
      · (try go_simp)
        refine ⟨?_, hS⟩
        with_reducible rfl
      simp only [Act.put, List.setIfInBounds_toArray, List.set_cons_zero, List.set_cons_succ]
      refine wpAnyS_go (i := 7) (some 28) (v := ?_) rfl rfl (by kernel_rfl) (by kernel_rfl) (by kernel_rfl) (fun _ _ _ h => h) (.inl ⟨by rfl, fun w hS => ?_⟩) ?_
      rotate_left
      · go_simp
        change Calls _ _ _ _ _
        refine Calls.mono (used_any B d mb S L _ (h.out.ext (hx0.trans hS))) ?_
        rintro e w' ⟨rfl, hx⟩
        refine ⟨?_, hS.trans hx⟩
        with_reducible rfl
      simp only [Act.put, List.setIfInBounds_toArray, List.set_cons_zero, List.set_cons_succ]
      refine wpAnyS_go (i := 8) (some 29) (v := ?_) rfl rfl (by kernel_rfl) (by kernel_rfl) (by kernel_rfl) (fun _ _ _ h => h) (.inl ⟨by rfl, fun w hS => ?_⟩) ?_
      rotate_left
      · (try go_simp)
        refine ⟨?_, hS⟩
        with_reducible rfl
      simp only [Act.put, List.setIfInBounds_toArray, List.set_cons_zero, List.set_cons_succ]
      refine wpAnyS_go (i := 9) (some 30) (v := ?_) rfl rfl (by kernel_rfl) (by kernel_rfl) (by kernel_rfl) (fun _ _ _ h => h) (.inl ⟨by rfl, fun w hS => ?_⟩) ?_
      rotate_left
      · (try go_simp)
        refine ⟨?_, hS⟩
        with_reducible rfl
      simp only [Act.put, List.setIfInBounds_toArray, List.set_cons_zero, List.set_cons_succ]
      refine wpAnyS_go (i := 10) (some 20) (v := ?_) rfl rfl (by kernel_rfl) (by kernel_rfl) (by kernel_rfl) (fun _ _ _ h => h) (.inl ⟨by rfl, fun w hS => ?_⟩) ?_
      rotate_left
      · (try go_simp)
        refine ⟨?_, hS⟩
        with_reducible rfl
      simp only [Act.put, List.setIfInBounds_toArray, List.set_cons_zero, List.set_cons_succ]
      refine wpAnyS_done (by kernel_rfl) fun w1 hS1 => ?_
      go_wp2
      exact hg.out _ (hx0.trans hS1)
end Go.Proofs.YtjnbbfhoegeppaaGreatDoor
end
