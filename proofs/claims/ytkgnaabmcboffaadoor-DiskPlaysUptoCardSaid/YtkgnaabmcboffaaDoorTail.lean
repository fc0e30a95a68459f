/-
  A region that asks for its order, each of whose operations leaves a known value in every world that meets a condition, and a world that meets it again: one walk in the text's order; the same with one last operation that hangs on all the others and does what it will.
-/
import Derived.OrdersHeld
import Derived.Test.YtkgnaabmcboffaaDoorKern
set_option linter.unusedVariables false
set_option linter.unusedSimpArgs false
namespace Go.Cv
open Go Go.RowKit
section
variable {P : Program} {ops : Array Oper} {Q : Exit → Act → World → Prop} {md : Region.Mode} {S : World → Prop}
/-- What an operation's run ends in: the value v, and a world that meets S. -/
def Res (P : Program) (S : World → Prop) (v : Value) : Result Next → Prop
  | .ok (.value u) w' => u = v ∧ S w'
  | .ok .skip w' => v = undef ∧ S w'
  | .ok (.enter f args) w' => Calls P f args w' (fun e w'' => e = .returned v ∧ S w'')
  | _ => False
theorem Res.upon {v : Value} {o : Oper} {a : Act} {next : Act → World → Prop} {r : Result Next} (h : Res P S v r) (hn : ∀ w', S w' → next (a.put o.dst v) w') : o.upon P a next Q r := by
  unfold Res at h
  split at h
  · obtain ⟨rfl, hS⟩ := h
    exact hn _ hS
  · obtain ⟨rfl, hS⟩ := h
    exact hn _ hS
  · refine Calls.mono h fun e w'' he => ?_
    obtain ⟨rfl, hS⟩ := he
    exact hn _ hS
  · exact h.elim
/-- In state a, in every world that meets S, the operation leaves v in its slot, and a world that meets S. -/
def YieldsS (P : Program) (ops : Array Oper) (S : World → Prop) (o : Oper) (v : Value) (a : Act) : Prop :=
  (Region.wanted o (yielded ops a.tmps) = true ∧ ∀ w, S w → Res P S v ((execOp a.eval o).run P w)) ∨
  (Region.wanted o (yielded ops a.tmps) = false ∧ v = undef)
theorem YieldsS.wpOp {i : Nat} {o : Oper} {v : Value} {a : Act} (hi : ops[i]? = some o) (hy : YieldsS P ops S o v a)
    {K : Act → World → Prop} {w : World} (hS : S w) (h : ∀ w', S w' → K (a.put o.dst v) w') : wpOp P ops Q i K a w := by
  unfold Go.wpOp
  simp only [hi]
  rcases hy with ⟨hw, hv⟩ | ⟨hw, rfl⟩
  · simp only [hw, if_true, Oper.wp]
    exact .inl ((hv w hS).upon h)
  · simp only [hw, Bool.false_eq_true, if_false]
    exact h w hS
theorem YieldsS.of_same {o : Oper} {v : Value} {a a' : Act} (hy : YieldsS P ops S o v a) (he : execOp a'.eval o = execOp a.eval o)
    (hw : Region.wanted o (yielded ops a'.tmps) = Region.wanted o (yielded ops a.tmps)) : YieldsS P ops S o v a' := by
  unfold YieldsS at *
  rw [he, hw]
  exact hy
theorem wpOp_putS {j : Nat} {oi oj : Oper} {v : Value} (hj : ops[j]? = some oj) (hap : oi.apart ops oj = true)
    (hsi : ∀ cs b, oi.op ≠ .select cs b) (hsj : ∀ cs b, oj.op ≠ .select cs b)
    (hQ : ∀ c a w, Q (.panic c) (a.put oi.dst v) w → Q (.panic c) a w) {K : Act → World → Prop} {a : Act} {w : World}
    (hy : YieldsS P ops S oi v a) (h : wpOp P ops Q j K (a.put oi.dst v) w) :
    wpOp P ops Q j (fun a' w' => YieldsS P ops S oi v a' ∧ K (a'.put oi.dst v) w') a w := by
  obtain ⟨h1, h2, h3⟩ := Oper.apart_spec hap
  have keep : ∀ (a : Act), YieldsS P ops S oi v a → ∀ u, YieldsS P ops S oi v (a.put oj.dst u) := fun a hy u =>
    hy.of_same (execOp_put oi hsi a oj.dst u h3) (wanted_put oi a oj.dst u h3)
  have keepD : ∀ d, YieldsS P ops S oi v { a with defers := d :: a.defers } := fun d => hy.of_same rfl rfl
  unfold wpOp at *
  simp only [hj] at *
  rw [wanted_put oj a oi.dst v h1] at h
  split
  · rename_i hw
    simp only [hw, if_true] at h
    rcases h with h | ⟨hasks, hlets⟩
    case inr => exact .inr ⟨by unfold Oper.asks at *; rw [execOp_put oj hsj a oi.dst v h1] at hasks; exact hasks, hlets⟩
    refine .inl ?_
    unfold Oper.wp at *
    rw [execOp_put oj hsj a oi.dst v h1] at h
    generalize (execOp a.eval oj).run P w = r at *
    cases r with
    | ok n w' =>
      cases n <;> simp only [Oper.upon] at h ⊢
      case value u => exact ⟨keep a hy u, by rw [← Act.put_comm a v u h2]; exact h⟩
      case skip => exact ⟨keep a hy _, by rw [← Act.put_comm a v undef h2]; exact h⟩
      case defer d =>
        refine ⟨keep _ (keepD d) _, ?_⟩
        rw [← Act.put_comm _ v undef h2, ← Act.put_defers]
        exact h
      case enter f args =>
        refine Calls.mono h fun e w'' he => ?_
        cases e with
        | returned u => exact ⟨keep a hy u, by rw [← Act.put_comm a v u h2]; exact he⟩
        | panicked c => exact hQ _ _ _ he
        | outgrown => exact he
      case row row args => exact Rows.mono h fun u w'' he => ⟨keep a hy u, by rw [← Act.put_comm a v u h2]; exact he⟩
    | halt x w' =>
      cases x <;> simp only [Oper.upon] at h ⊢
      case panic u => exact hQ _ _ _ h
  · rename_i hw
    simp only [hw] at h
    exact ⟨keep a hy _, by rw [← Act.put_comm a v undef h2]; exact h⟩
/-- Whatever order is picked from here on, from any world that meets S. -/
def wpAnyS (P : Program) (md : Region.Mode) (ops : Array Oper) (Q : Exit → Act → World → Prop) (S : World → Prop) : Nat → Array Bool → Act → Prop
  | 0, listed, a => Region.ready md ops listed = [] ∧ ∀ w, S w → Q .normal a w
  | fuel + 1, listed, a =>
    (Region.ready md ops listed = [] → ∀ w, S w → Q .normal a w) ∧
    ∀ i ∈ Region.ready md ops listed, ∀ w, S w → wpOp P ops Q i (fun a' w' => S w' ∧ wpAnyS P md ops Q S fuel (listed.setIfInBounds i true) a') a w
theorem wpAny_of_sure : ∀ (fuel : Nat) (listed : Array Bool) (a : Act) (w : World), S w → wpAnyS P md ops Q S fuel listed a → wpAny P md ops Q fuel listed a w
  | 0, _, _, w, hS, h => ⟨h.1, h.2 w hS⟩
  | fuel + 1, _, _, w, hS, h => ⟨fun h0 => h.1 h0 w hS, fun i hi => wpOp_mono (fun a' w' h' => wpAny_of_sure fuel _ a' w' h'.1 h'.2) (h.2 i hi w hS)⟩
theorem wpAnyS_first {i : Nat} {oi : Oper} {v : Value} (hi : ops[i]? = some oi) (hsel : ∀ (j : Nat) (o : Oper) cs b, ops[j]? = some o → o.op ≠ .select cs b)
    (hQ : ∀ c a w, Q (.panic c) (a.put oi.dst v) w → Q (.panic c) a w) :
    ∀ (fuel : Nat) (listed : Array Bool) (a : Act),
      (∀ j oj, ops[j]? = some oj → j ≠ i → listed.getD j true = false → (∀ e ∈ oj.after, Region.binds md e = true → e.on ≠ i) → oi.apart ops oj = true) →
      i ∈ Region.ready md ops listed → YieldsS P ops S oi v a →
      wpAnyS P md ops Q S fuel (listed.setIfInBounds i true) (a.put oi.dst v) → wpAnyS P md ops Q S (fuel + 1) listed a := by
  intro fuel
  induction fuel with
  | zero =>
    intro listed a _ hr hy H
    refine ⟨fun h => (by rw [h] at hr; cases hr), fun j hj w hS => ?_⟩
    by_cases hji : j = i
    · subst hji; exact hy.wpOp hi hS fun w' hS' => ⟨hS', H⟩
    · have := ready_mono hj hji
      rw [H.1] at this
      cases this
  | succ fuel ih =>
    intro listed a hfree hr hy H
    refine ⟨fun h => (by rw [h] at hr; cases hr), fun j hj w hS => ?_⟩
    by_cases hji : j = i
    · subst hji; exact hy.wpOp hi hS fun w' hS' => ⟨hS', H⟩
    · have h1 := H.2 j (ready_mono hj hji) w hS
      obtain ⟨hjun, oj, hoj, hall⟩ := mem_ready.1 hj
      have hnot : ∀ e ∈ oj.after, Region.binds md e = true → e.on ≠ i := fun e he hb heq => by
        have h1 := hall e he hb
        have h0 := (mem_ready.1 hr).1
        rw [heq] at h1
        rcases Nat.lt_or_ge i listed.size with h' | h'
        · simp [h'] at h0 h1; rw [h0] at h1; cases h1
        · simp [Array.getElem?_eq_none h'] at h1
      have h2 := wpOp_putS hoj (hfree j oj hoj hji hjun hnot) (fun cs b => hsel i oi cs b hi) (fun cs b => hsel j oj cs b hoj) hQ hy h1
      have hfree' : ∀ k ok, ops[k]? = some ok → k ≠ i → (listed.setIfInBounds j true).getD k true = false →
          (∀ e ∈ ok.after, Region.binds md e = true → e.on ≠ i) → oi.apart ops ok = true := fun k ok hk hki hun hno => by
        refine hfree k ok hk hki ?_ hno
        by_cases hjk : j = k
        · subst hjk; exact hjun
        · rw [getD_set_ne true hjk] at hun; exact hun
      refine wpOp_mono (fun a' w' h3 => ⟨h3.2.1, ih (listed.setIfInBounds j true) a' hfree' (ready_mono hr (Ne.symm hji)) h3.1 ?_⟩) h2
      rw [Array.setIfInBounds_comm _ _ hji]
      exact h3.2.2
/-- Take number i: it may come up, leaves v in every world that meets S. -/
theorem wpAnyS_take {i : Nat} {oi : Oper} {v : Value} {fuel : Nat} {listed : Array Bool} {a : Act} (hi : ops[i]? = some oi)
    (hs : Region.noSelect ops = true) (hf : Region.free md ops listed i = true) (hr : (Region.ready md ops listed).contains i = true)
    (hQ : ∀ c a w, Q (.panic c) (a.put oi.dst v) w → Q (.panic c) a w) (hy : YieldsS P ops S oi v a)
    (h : wpAnyS P md ops Q S fuel (listed.setIfInBounds i true) (a.put oi.dst v)) : wpAnyS P md ops Q S (fuel + 1) listed a :=
  wpAnyS_first hi (Region.noSelect_spec hs) hQ fuel listed a (Region.free_spec hi hf) (by simpa using hr) hy h
/-- The same, the slot written out. -/
theorem wpAnyS_go {i : Nat} {oi : Oper} (dst : Option Tmp) {v : Value} {fuel : Nat} {listed : Array Bool} {a : Act} (hi : ops[i]? = some oi) (hd : oi.dst = dst)
    (hs : Region.noSelect ops = true) (hf : Region.free md ops listed i = true) (hr : (Region.ready md ops listed).contains i = true)
    (hQ : ∀ c a w, Q (.panic c) (a.put dst v) w → Q (.panic c) a w) (hy : YieldsS P ops S oi v a)
    (h : wpAnyS P md ops Q S fuel (listed.setIfInBounds i true) (a.put dst v)) : wpAnyS P md ops Q S (fuel + 1) listed a := by
  subst hd
  exact wpAnyS_take hi hs hf hr hQ hy h
theorem wpAnyS_done {listed : Array Bool} {a : Act} (hr : Region.ready md ops listed = []) (h : ∀ w, S w → Q .normal a w) : wpAnyS P md ops Q S 0 listed a := ⟨hr, h⟩
theorem wp_region_sure {id : Nat} {a : Act} {w : World} (S : World → Prop) (hm : P.follows .mixedOrders = true) (hS : S w.drew)
    (h : wpAnyS P .any ops Q S ops.size (Array.replicate ops.size false) a) : (Code.region id ops true).wp P Q a w :=
  wp_region_any hm (wpAny_of_sure _ _ _ _ hS h)
/-- What was listed has all that it hangs on listed. -/
def ClosedL (md : Region.Mode) (ops : Array Oper) (listed : Array Bool) : Prop :=
  listed.size = ops.size ∧ ∀ k ok, ops[k]? = some ok → listed.getD k false = true → ∀ e ∈ ok.after, Region.binds md e = true → listed.getD e.on false = true
/-- What the operations of a list hang on. -/
def needs (md : Region.Mode) (ops : Array Oper) (l : List Nat) : List Nat :=
  l.flatMap fun k => match ops[k]? with
    | some o => (o.after.toList.filter fun e => Region.binds md e).map (·.on)
    | none => []
def needsN (md : Region.Mode) (ops : Array Oper) : List Nat → List Nat → List Nat
  | [], l => l
  | k :: r, l => needsN md ops r (if l.contains k then l ++ needs md ops [k] else l)
theorem closed_set {listed : Array Bool} {j : Nat} (h : ClosedL md ops listed) (hj : j ∈ Region.ready md ops listed) : ClosedL md ops (listed.setIfInBounds j true) := by
  refine ⟨by simpa using h.1, fun k ok hk hl e he hb => ?_⟩
  obtain ⟨hjun, oj, hoj, hall⟩ := mem_ready.1 hj
  have up : ∀ m, listed.getD m false = true → (listed.setIfInBounds j true).getD m false = true := fun m hm => by
    simp only [Array.getD_eq_getD_getElem?, Array.getElem?_setIfInBounds] at hm ⊢
    split
    · rename_i e
      subst e
      split
      · simp
      · rename_i h2
        rw [Array.getElem?_eq_none (by omega)] at hm
        exact hm
    · exact hm
  by_cases hkj : j = k
  · subst hkj
    obtain rfl := Option.some.inj (hoj.symm.trans hk)
    exact up _ (hall e he hb)
  · refine up _ (h.2 k ok hk ?_ e he hb)
    simp only [Array.getD_eq_getD_getElem?, Array.getElem?_setIfInBounds, if_neg hkj] at hl ⊢
    exact hl
theorem listed_needs {listed : Array Bool} (h : ClosedL md ops listed) {l : List Nat} (hl : ∀ k ∈ l, k < ops.size → listed.getD k false = true) : ∀ k ∈ needs md ops l, listed.getD k false = true := by
  intro k hk
  unfold needs at hk
  obtain ⟨m, hm, hk⟩ := List.mem_flatMap.1 hk
  rcases ho : ops[m]? with _ | o
  · rw [ho] at hk; cases hk
  · rw [ho] at hk
    obtain ⟨e, he, rfl⟩ := List.mem_map.1 hk
    obtain ⟨he1, he2⟩ := List.mem_filter.1 he
    have hms : m < ops.size := (Array.getElem?_eq_some_iff.1 ho).1
    exact h.2 m o ho (hl m hm hms) e (by simpa using he1) he2
theorem listed_needsN {listed : Array Bool} (h : ClosedL md ops listed) : ∀ (r : List Nat) {l : List Nat}, (∀ k ∈ l, k < ops.size → listed.getD k false = true) → ∀ k ∈ needsN md ops r l, k < ops.size → listed.getD k false = true
  | [], _, hl => hl
  | m :: r, l, hl => listed_needsN h r (l := if l.contains m then l ++ needs md ops [m] else l) fun k hk hks => by
    split at hk
    · rename_i hm
      rcases List.mem_append.1 hk with h1 | h1
      · exact hl k h1 hks
      · exact listed_needs h (l := [m]) (fun x hx hxs => by
          obtain rfl := List.mem_singleton.1 hx
          exact hl x (by simpa using hm) hxs) k h1
    · exact hl k hk hks
/-- As wpAnyS, ahead of one last operation N. -/
def wpAnyT (P : Program) (md : Region.Mode) (ops : Array Oper) (Q : Exit → Act → World → Prop) (S : World → Prop) (N : Nat) : Nat → Array Bool → Act → Prop
  | 0, listed, a => Region.ready md ops listed = [N] ∧ Region.ready md ops (listed.setIfInBounds N true) = [] ∧ ∀ w, S w → wpOp P ops Q N (fun a' w' => Q .normal a' w') a w
  | fuel + 1, listed, a => (∃ i ∈ Region.ready md ops listed, i ≠ N) ∧
    ∀ i ∈ Region.ready md ops listed, i ≠ N → ∀ w, S w → wpOp P ops Q i (fun a' w' => S w' ∧ wpAnyT P md ops Q S N fuel (listed.setIfInBounds i true) a') a w
theorem wpAny_of_tail {N : Nat} (n : List Nat) (hcov : ((List.range ops.size).all fun m => m == N || (needsN md ops n [N]).contains m) = true) :
    ∀ (fuel : Nat) (listed : Array Bool) (a : Act) (w : World), ClosedL md ops listed → S w → wpAnyT P md ops Q S N fuel listed a → wpAny P md ops Q (fuel + 1) listed a w
  | 0, listed, a, w, hc, hS, h => by
    refine ⟨fun h0 => (by rw [h.1] at h0; cases h0), fun i hi => ?_⟩
    rw [h.1] at hi
    obtain rfl := List.mem_singleton.1 hi
    exact wpOp_mono (fun a' w' h' => ⟨h.2.1, h'⟩) (h.2.2 w hS)
  | fuel + 1, listed, a, w, hc, hS, h => by
    obtain ⟨⟨m, hm, hmN⟩, h2⟩ := h
    refine ⟨fun h0 => (by rw [h0] at hm; cases hm), fun i hi => ?_⟩
    by_cases hiN : i = N
    · exfalso
      subst hiN
      obtain ⟨hmun, om, hom, -⟩ := mem_ready.1 hm
      obtain ⟨hiun, oi, hoi, hall⟩ := mem_ready.1 hi
      have hms : m < ops.size := (Array.getElem?_eq_some_iff.1 hom).1
      have hcov2 := List.all_eq_true.1 hcov m (List.mem_range.2 hms)
      have hmem : m ∈ needsN md ops n [i] := by
        simp only [Bool.or_eq_true, beq_iff_eq, List.contains_iff_mem] at hcov2
        rcases hcov2 with h | h
        · exact absurd h hmN
        · exact h
      have hc2 := closed_set hc hi
      have key := listed_needsN hc2 n (l := [i]) (fun k hk hks => by
        obtain rfl := List.mem_singleton.1 hk
        have hs2 := hc.1
        simp only [Array.getD_eq_getD_getElem?]
        rw [Array.getElem?_setIfInBounds_self_of_lt (by omega)]
        rfl) m hmem hms
      have hs3 := hc.1
      have hlt : m < listed.size := by omega
      simp only [Array.getD_eq_getD_getElem?] at key hmun
      rw [Array.getElem?_setIfInBounds_ne (Ne.symm hmN)] at key
      rw [Array.getElem?_eq_getElem hlt] at key hmun
      simp at key hmun
      rw [key] at hmun
      cases hmun
    · exact wpOp_mono (fun a' w' h' => wpAny_of_tail n hcov fuel _ a' w' (closed_set hc hi) h'.1 h'.2) (h2 i hi hiN w hS)
theorem wpAnyT_first {N : Nat} {i : Nat} {oi : Oper} {v : Value} (hiN : i ≠ N) (hi : ops[i]? = some oi) (hsel : ∀ (j : Nat) (o : Oper) cs b, ops[j]? = some o → o.op ≠ .select cs b)
    (hQ : ∀ c a w, Q (.panic c) (a.put oi.dst v) w → Q (.panic c) a w) :
    ∀ (fuel : Nat) (listed : Array Bool) (a : Act),
      (∀ j oj, ops[j]? = some oj → j ≠ i → listed.getD j true = false → (∀ e ∈ oj.after, Region.binds md e = true → e.on ≠ i) → oi.apart ops oj = true) →
      i ∈ Region.ready md ops listed → YieldsS P ops S oi v a →
      wpAnyT P md ops Q S N fuel (listed.setIfInBounds i true) (a.put oi.dst v) → wpAnyT P md ops Q S N (fuel + 1) listed a := by
  intro fuel
  induction fuel with
  | zero =>
    intro listed a _ hr hy H
    refine ⟨⟨i, hr, hiN⟩, fun j hj hjN w hS => ?_⟩
    by_cases hji : j = i
    · subst hji; exact hy.wpOp hi hS fun w' hS' => ⟨hS', H⟩
    · have := ready_mono hj hji
      rw [H.1] at this
      exact absurd (List.mem_singleton.1 this) hjN
  | succ fuel ih =>
    intro listed a hfree hr hy H
    refine ⟨⟨i, hr, hiN⟩, fun j hj hjN w hS => ?_⟩
    by_cases hji : j = i
    · subst hji; exact hy.wpOp hi hS fun w' hS' => ⟨hS', H⟩
    · have h1 := H.2 j (ready_mono hj hji) hjN w hS
      obtain ⟨hjun, oj, hoj, hall⟩ := mem_ready.1 hj
      have hnot : ∀ e ∈ oj.after, Region.binds md e = true → e.on ≠ i := fun e he hb heq => by
        have h1 := hall e he hb
        have h0 := (mem_ready.1 hr).1
        rw [heq] at h1
        rcases Nat.lt_or_ge i listed.size with h' | h'
        · simp [h'] at h0 h1; rw [h0] at h1; cases h1
        · simp [Array.getElem?_eq_none h'] at h1
      have h2 := wpOp_putS hoj (hfree j oj hoj hji hjun hnot) (fun cs b => hsel i oi cs b hi) (fun cs b => hsel j oj cs b hoj) hQ hy h1
      have hfree' : ∀ k ok, ops[k]? = some ok → k ≠ i → (listed.setIfInBounds j true).getD k true = false →
          (∀ e ∈ ok.after, Region.binds md e = true → e.on ≠ i) → oi.apart ops ok = true := fun k ok hk hki hun hno => by
        refine hfree k ok hk hki ?_ hno
        by_cases hjk : j = k
        · subst hjk; exact hjun
        · rw [getD_set_ne true hjk] at hun; exact hun
      refine wpOp_mono (fun a' w' h3 => ⟨h3.2.1, ih (listed.setIfInBounds j true) a' hfree' (ready_mono hr (Ne.symm hji)) h3.1 ?_⟩) h2
      rw [Array.setIfInBounds_comm _ _ hji]
      exact h3.2.2
theorem wpAnyT_go {N : Nat} {i : Nat} {oi : Oper} (dst : Option Tmp) {v : Value} {fuel : Nat} {listed : Array Bool} {a : Act} (hiN : (i == N) = false) (hi : ops[i]? = some oi) (hd : oi.dst = dst)
    (hs : Region.noSelect ops = true) (hf : Region.free md ops listed i = true) (hr : (Region.ready md ops listed).contains i = true)
    (hQ : ∀ c a w, Q (.panic c) (a.put dst v) w → Q (.panic c) a w) (hy : YieldsS P ops S oi v a)
    (h : wpAnyT P md ops Q S N fuel (listed.setIfInBounds i true) (a.put dst v)) : wpAnyT P md ops Q S N (fuel + 1) listed a := by
  subst hd
  exact wpAnyT_first (by simpa using hiN) hi (Region.noSelect_spec hs) hQ fuel listed a (Region.free_spec hi hf) (by simpa using hr) hy h
theorem wpAnyT_done {N : Nat} {o : Oper} {listed : Array Bool} {a : Act} (ho : ops[N]? = some o) (hr : Region.ready md ops listed = [N]) (hr2 : Region.ready md ops (listed.setIfInBounds N true) = [])
    (hw : Region.wanted o (yielded ops a.tmps) = true) (h : ∀ w, S w → Oper.wp P o a w (fun a' w' => Q .normal a' w') Q) : wpAnyT P md ops Q S N 0 listed a := by
  refine ⟨hr, hr2, fun w hS => ?_⟩
  unfold Go.wpOp
  simp only [ho, hw, if_true]
  exact .inl (h w hS)
theorem wp_region_tail {id : Nat} {a : Act} {w : World} (S : World → Prop) (N : Nat) (n : List Nat) (hm : P.follows .mixedOrders = true) (hS : S w.drew) (hn : ops.size = N + 1)
    (hcov : ((List.range ops.size).all fun m => m == N || (needsN .any ops n [N]).contains m) = true)
    (h : wpAnyT P .any ops Q S N N (Array.replicate ops.size false) a) : (Code.region id ops true).wp P Q a w := by
  refine wp_region_any hm ?_
  rw [hn]
  refine wpAny_of_tail n hcov N _ a w.drew ⟨by simp [hn], fun k ok hk hl => ?_⟩ hS (by rw [← hn]; exact h)
  simp only [Array.getD_eq_getD_getElem?, Array.getElem?_replicate] at hl
  split at hl <;> simp at hl
end
end Go.Cv
