/-
  Texts of the lemmas below the claim, put together: Tail HashA HashK.
-/
import Derived.OrdersHeld
import Derived.Test.YtgeihelkkhjjaaaDoorKern
import Derived.Test.YtgeihelkkhjjaaaDoorEC
import Derived.Test.YtgeihelkkhjjaaaDoorProg
import Derived.Test.YtgeihelkkhjjaaaDoorDP
import Derived.BigRegion
import Derived.BigQuiet
import Derived.WalkSmall
import Derived.RowKitTokens
section
/-
  A region that asks for its order, each of whose operations leaves a known value in every world that meets a condition, and a world that meets it again: one walk in the text's order; the same with one last operation that hangs on all the others and does what it will.
-/
set_option linter.unusedVariables false
set_option linter.unusedSimpArgs false
namespace Go.Cv
open Go Go.RowKit
section
variable {P : Program} {ops : Array Oper} {Q : Exit → Act → World → Prop} {md : Region.Mode} {S : World → Prop}
/-- What was listed has all that it hangs on listed. -/
def ClosedL (md : Region.Mode) (ops : Array Oper) (listed : Array Bool) : Prop :=
  listed.size = ops.size ∧ ∀ k ok, ops[k]? = some ok → listed.getD k false = true → ∀ e ∈ ok.after, Region.binds md e = true → listed.getD e.on false = true
/-- What the operations of a list hang on. -/
def needs (md : Region.Mode) (ops : Array Oper) (l : List Nat) : List Nat :=
  l.flatMap fun k => match ops[k]? with
    | some o => (o.after.toList.filter fun e => Region.binds md e).map (·.on)
    | none => []
def needsN (md : Region.Mode) (ops : Array Oper) : List Nat → List Nat → List Nat
  | [], l => l
  | k :: r, l => needsN md ops r (if l.contains k then l ++ needs md ops [k] else l)
theorem closed_set {listed : Array Bool} {j : Nat} (h : ClosedL md ops listed) (hj : j ∈ Region.ready md ops listed) : ClosedL md ops (listed.setIfInBounds j true) := by
  refine ⟨by simpa using h.1, fun k ok hk hl e he hb => ?_⟩
  obtain ⟨hjun, oj, hoj, hall⟩ := mem_ready.1 hj
  have up : ∀ m, listed.getD m false = true → (listed.setIfInBounds j true).getD m false = true := fun m hm => by
    simp only [Array.getD_eq_getD_getElem?, Array.getElem?_setIfInBounds] at hm ⊢
    split
    · rename_i e
      subst e
      split
      · simp
      · rename_i h2
        rw [Array.getElem?_eq_none (by omega)] at hm
        exact hm
    · exact hm
  by_cases hkj : j = k
  · subst hkj
    obtain rfl := Option.some.inj (hoj.symm.trans hk)
    exact up _ (hall e he hb)
  · refine up _ (h.2 k ok hk ?_ e he hb)
    simp only [Array.getD_eq_getD_getElem?, Array.getElem?_setIfInBounds, if_neg hkj] at hl ⊢
    exact hl
theorem listed_needs {listed : Array Bool} (h : ClosedL md ops listed) {l : List Nat} (hl : ∀ k ∈ l, k < ops.size → listed.getD k false = true) : ∀ k ∈ needs md ops l, listed.getD k false = true := by
  intro k hk
  unfold needs at hk
  obtain ⟨m, hm, hk⟩ := List.mem_flatMap.1 hk
  rcases ho : ops[m]? with _ | o
  · rw [ho] at hk; cases hk
  · rw [ho] at hk
    obtain ⟨e, he, rfl⟩ := List.mem_map.1 hk
    obtain ⟨he1, he2⟩ := List.mem_filter.1 he
    have hms : m < ops.size := (Array.getElem?_eq_some_iff.1 ho).1
    exact h.2 m o ho (hl m hm hms) e (by simpa using he1) he2
theorem listed_needsN {listed : Array Bool} (h : ClosedL md ops listed) : ∀ (r : List Nat) {l : List Nat}, (∀ k ∈ l, k < ops.size → listed.getD k false = true) → ∀ k ∈ needsN md ops r l, k < ops.size → listed.getD k false = true
  | [], _, hl => hl
  | m :: r, l, hl => listed_needsN h r (l := if l.contains m then l ++ needs md ops [m] else l) fun k hk hks => by
    split at hk
    · rename_i hm
      rcases List.mem_append.1 hk with h1 | h1
      · exact hl k h1 hks
      · exact listed_needs h (l := [m]) (fun x hx hxs => by
          obtain rfl := List.mem_singleton.1 hx
          exact hl x (by simpa using hm) hxs) k h1
    · exact hl k hk hks
/-- As wpAnyS, ahead of one last operation N. -/
def wpAnyT (P : Program) (md : Region.Mode) (ops : Array Oper) (Q : Exit → Act → World → Prop) (S : World → Prop) (N : Nat) : Nat → Array Bool → Act → Prop
  | 0, listed, a => Region.ready md ops listed = [N] ∧ Region.ready md ops (listed.setIfInBounds N true) = [] ∧ ∀ w, S w → wpOp P ops Q N (fun a' w' => Q .normal a' w') a w
  | fuel + 1, listed, a => (∃ i ∈ Region.ready md ops listed, i ≠ N) ∧
    ∀ i ∈ Region.ready md ops listed, i ≠ N → ∀ w, S w → wpOp P ops Q i (fun a' w' => S w' ∧ wpAnyT P md ops Q S N fuel (listed.setIfInBounds i true) a') a w
theorem wpAny_of_tail {N : Nat} (n : List Nat) (hcov : ((List.range ops.size).all fun m => m == N || (needsN md ops n [N]).contains m) = true) :
    ∀ (fuel : Nat) (listed : Array Bool) (a : Act) (w : World), ClosedL md ops listed → S w → wpAnyT P md ops Q S N fuel listed a → wpAny P md ops Q (fuel + 1) listed a w
  | 0, listed, a, w, hc, hS, h => by
    refine ⟨fun h0 => (by rw [h.1] at h0; cases h0), fun i hi => ?_⟩
    rw [h.1] at hi
    obtain rfl := List.mem_singleton.1 hi
    exact wpOp_mono (fun a' w' h' => ⟨h.2.1, h'⟩) (h.2.2 w hS)
  | fuel + 1, listed, a, w, hc, hS, h => by
    obtain ⟨⟨m, hm, hmN⟩, h2⟩ := h
    refine ⟨fun h0 => (by rw [h0] at hm; cases hm), fun i hi => ?_⟩
    by_cases hiN : i = N
    · exfalso
      subst hiN
      obtain ⟨hmun, om, hom, -⟩ := mem_ready.1 hm
      obtain ⟨hiun, oi, hoi, hall⟩ := mem_ready.1 hi
      have hms : m < ops.size := (Array.getElem?_eq_some_iff.1 hom).1
      have hcov2 := List.all_eq_true.1 hcov m (List.mem_range.2 hms)
      have hmem : m ∈ needsN md ops n [i] := by
        simp only [Bool.or_eq_true, beq_iff_eq, List.contains_iff_mem] at hcov2
        rcases hcov2 with h | h
        · exact absurd h hmN
        · exact h
      have hc2 := closed_set hc hi
      have key := listed_needsN hc2 n (l := [i]) (fun k hk hks => by
        obtain rfl := List.mem_singleton.1 hk
        have hs2 := hc.1
        simp only [Array.getD_eq_getD_getElem?]
        rw [Array.getElem?_setIfInBounds_self_of_lt (by omega)]
        rfl) m hmem hms
      have hs3 := hc.1
      have hlt : m < listed.size := by omega
      simp only [Array.getD_eq_getD_getElem?] at key hmun
      rw [Array.getElem?_setIfInBounds_ne (Ne.symm hmN)] at key
      rw [Array.getElem?_eq_getElem hlt] at key hmun
      simp at key hmun
      rw [key] at hmun
      cases hmun
    · exact wpOp_mono (fun a' w' h' => wpAny_of_tail n hcov fuel _ a' w' (closed_set hc hi) h'.1 h'.2) (h2 i hi hiN w hS)
theorem wpAnyT_first {N : Nat} {i : Nat} {oi : Oper} {v : Value} (hiN : i ≠ N) (hi : ops[i]? = some oi) (hsel : ∀ (j : Nat) (o : Oper) cs b, ops[j]? = some o → o.op ≠ .select cs b)
    (hQ : ∀ c a w, Q (.panic c) (a.put oi.dst v) w → Q (.panic c) a w) :
    ∀ (fuel : Nat) (listed : Array Bool) (a : Act),
      (∀ j oj, ops[j]? = some oj → j ≠ i → listed.getD j true = false → (∀ e ∈ oj.after, Region.binds md e = true → e.on ≠ i) → oi.apart ops oj = true) →
      i ∈ Region.ready md ops listed → YieldsS P ops S oi v a →
      wpAnyT P md ops Q S N fuel (listed.setIfInBounds i true) (a.put oi.dst v) → wpAnyT P md ops Q S N (fuel + 1) listed a := by
  intro fuel
  induction fuel with
  | zero =>
    intro listed a _ hr hy H
    refine ⟨⟨i, hr, hiN⟩, fun j hj hjN w hS => ?_⟩
    by_cases hji : j = i
    · subst hji; exact hy.wpOp hi hS fun w' hS' => ⟨hS', H⟩
    · have := ready_mono hj hji
      rw [H.1] at this
      exact absurd (List.mem_singleton.1 this) hjN
  | succ fuel ih =>
    intro listed a hfree hr hy H
    refine ⟨⟨i, hr, hiN⟩, fun j hj hjN w hS => ?_⟩
    by_cases hji : j = i
    · subst hji; exact hy.wpOp hi hS fun w' hS' => ⟨hS', H⟩
    · have h1 := H.2 j (ready_mono hj hji) hjN w hS
      obtain ⟨hjun, oj, hoj, hall⟩ := mem_ready.1 hj
      have hnot : ∀ e ∈ oj.after, Region.binds md e = true → e.on ≠ i := fun e he hb heq => by
        have h1 := hall e he hb
        have h0 := (mem_ready.1 hr).1
        rw [heq] at h1
        rcases Nat.lt_or_ge i listed.size with h' | h'
        · simp [h'] at h0 h1; rw [h0] at h1; cases h1
        · simp [Array.getElem?_eq_none h'] at h1
      have h2 := wpOp_putS hoj (hfree j oj hoj hji hjun hnot) (fun cs b => hsel i oi cs b hi) (fun cs b => hsel j oj cs b hoj) hQ hy h1
      have hfree' : ∀ k ok, ops[k]? = some ok → k ≠ i → (listed.setIfInBounds j true).getD k true = false →
          (∀ e ∈ ok.after, Region.binds md e = true → e.on ≠ i) → oi.apart ops ok = true := fun k ok hk hki hun hno => by
        refine hfree k ok hk hki ?_ hno
        by_cases hjk : j = k
        · subst hjk; exact hjun
        · rw [getD_set_ne true hjk] at hun; exact hun
      refine wpOp_mono (fun a' w' h3 => ⟨h3.2.1, ih (listed.setIfInBounds j true) a' hfree' (ready_mono hr (Ne.symm hji)) h3.1 ?_⟩) h2
      rw [Array.setIfInBounds_comm _ _ hji]
      exact h3.2.2
theorem wpAnyT_go {N : Nat} {i : Nat} {oi : Oper} (dst : Option Tmp) {v : Value} {fuel : Nat} {listed : Array Bool} {a : Act} (hiN : (i == N) = false) (hi : ops[i]? = some oi) (hd : oi.dst = dst)
    (hs : Region.noSelect ops = true) (hf : Region.free md ops listed i = true) (hr : (Region.ready md ops listed).contains i = true)
    (hQ : ∀ c a w, Q (.panic c) (a.put dst v) w → Q (.panic c) a w) (hy : YieldsS P ops S oi v a)
    (h : wpAnyT P md ops Q S N fuel (listed.setIfInBounds i true) (a.put dst v)) : wpAnyT P md ops Q S N (fuel + 1) listed a := by
  subst hd
  exact wpAnyT_first (by simpa using hiN) hi (Region.noSelect_spec hs) hQ fuel listed a (Region.free_spec hi hf) (by simpa using hr) hy h
theorem wpAnyT_done {N : Nat} {o : Oper} {listed : Array Bool} {a : Act} (ho : ops[N]? = some o) (hr : Region.ready md ops listed = [N]) (hr2 : Region.ready md ops (listed.setIfInBounds N true) = [])
    (hw : Region.wanted o (yielded ops a.tmps) = true) (h : ∀ w, S w → Oper.wp P o a w (fun a' w' => Q .normal a' w') Q) : wpAnyT P md ops Q S N 0 listed a := by
  refine ⟨hr, hr2, fun w hS => ?_⟩
  unfold Go.wpOp
  simp only [ho, hw, if_true]
  exact .inl (h w hS)
theorem wp_region_tail {id : Nat} {a : Act} {w : World} (S : World → Prop) (N : Nat) (n : List Nat) (hm : P.follows .mixedOrders = true) (hS : S w.drew) (hn : ops.size = N + 1)
    (hcov : ((List.range ops.size).all fun m => m == N || (needsN .any ops n [N]).contains m) = true)
    (h : wpAnyT P .any ops Q S N N (Array.replicate ops.size false) a) : (Code.region id ops true).wp P Q a w := by
  refine wp_region_any hm ?_
  rw [hn]
  refine wpAny_of_tail n hcov N _ a w.drew ⟨by simp [hn], fun k ok hk hl => ?_⟩ hS (by rw [← hn]; exact h)
  simp only [Array.getD_eq_getD_getElem?, Array.getElem?_replicate] at hl
  split at hl <;> simp at hl
end
end Go.Cv
end
section
/-
  Walks of the layer hash: words turned, and mixed.
-/
set_option linter.unusedSimpArgs false
set_option linter.unusedVariables false
namespace Go.Cv.Hash
open Go.RowKit
/-- A word turned right. -/
def rot64 (x : UInt64) (n : Nat) : UInt64 := x <<< UInt64.ofNat (64 - n) ||| x >>> UInt64.ofNat n
/-- Three places. -/
def small64 (x : UInt64) (a b c : Nat) : UInt64 := rot64 x a ^^^ rot64 x b ^^^ x >>> UInt64.ofNat c
def great64 (x : UInt64) (a b c : Nat) : UInt64 := rot64 x a ^^^ rot64 x b ^^^ rot64 x c
theorem ofNat_toNat64 (s : Nat) (h : s < 64) : (UInt64.ofNat s).toNat = s := by
  rw [UInt64.toNat_ofNat']; omega
theorem shl_run64 (x : UInt64) (yk : IntKind) (s : Nat) (h : s < 64) : Op.shift .shl .u64 (n64 x) yk (s : Int) = pure (.int .u64 (n64 (x <<< UInt64.ofNat s))) := by
  unfold Op.shift
  rw [if_neg (by omega)]
  have e : min ((s : Int)).toNat (IntKind.u64).bits = s := by show min s 64 = s; omega
  simp only [e]
  congr 2
  rw [wrap_u64_any, n64_u64]
  show ((x.toNat : Int) * 2 ^ s) % _ = (((x <<< UInt64.ofNat s).toNat : Nat) : Int)
  rw [UInt64.toNat_shiftLeft, ofNat_toNat64 s h, Nat.mod_eq_of_lt h, Nat.shiftLeft_eq]
  simp
theorem shr_eq64 (x : UInt64) (s : Nat) (h : s < 64) : n64 x / 2 ^ s = n64 (x >>> UInt64.ofNat s) := by
  show (x.toNat : Int) / 2 ^ s = (((x >>> UInt64.ofNat s).toNat : Nat) : Int)
  rw [UInt64.toNat_shiftRight, ofNat_toNat64 s h, Nat.mod_eq_of_lt h, Nat.shiftRight_eq_div_pow]
  simp
theorem and_turn64 (n : Nat) (h0 : 0 < n) (h1 : n < 64) : n64 (-u64 (n : Int) &&& 63) = ((64 - n : Nat) : Int) := by
  show (((-u64 (n : Int) &&& 63).toNat : Nat) : Int) = _
  rw [UInt64.toNat_and]
  have h2 : ((-u64 (n : Int)).toNat : Int) = (-(n : Int)) % 18446744073709551616 := by rw [← u64_neg]; exact n64_u64 _
  have h3 : (63 : UInt64).toNat = 2 ^ 6 - 1 := rfl
  rw [h3, Nat.and_two_pow_sub_one_eq_mod]
  omega
theorem sub_turn64 (n : Nat) (h1 : n < 64) : n64 (64 - u64 (((64 - n : Nat)) : Int)) = (n : Int) := by
  have e : ((64 : UInt64) - u64 (((64 - n : Nat)) : Int)) = u64 (n : Int) := by
    rw [show (64 : UInt64) = u64 (64 : Int) from rfl, ← u64_sub]
    congr 1
    omega
  rw [e, n64_u64]
  omega
end Go.Cv.Hash
namespace Go.Proofs.YtgeihelkkhjjaaaDoor
open Go.RowKit Go.Cv Go.Cv.Hash Go.Cv.Dig
theorem ta64 (z : Int) (w : World) : (Instr.typeAssert (.iface 60 (.int .u64 z)) 20 106 true).run Tryd.prog w = .ok (.tuple #[.int .u32 0, .bool false]) w := by kernel_rfl
set_option maxHeartbeats 2000000 in
theorem rl64 (x : UInt64) (n : Nat) (w : World) (h0 : 0 < n) (h1 : n < 64) :
    Calls Tryd.prog 64 #[.int .u64 (n64 x), .int .i64 (-(n : Int))] w fun e w' => e = .returned (.int .u64 (n64 (rot64 x n))) ∧ w' = w := by
  have hs := and_turn64 n h0 h1
  have hs2 := sub_turn64 n h1
  have hl := fun yk => shl_run64 x yk (64 - n) (by omega)
  have hr := shr_eq64 x n h1
  have e : rot64 x n = x <<< UInt64.ofNat (64 - n) ||| x >>> UInt64.ofNat n := rfl
  rw [e]
  clear e
  generalize 64 - n = s at *
  generalize x <<< UInt64.ofNat s = y at *
  generalize x >>> UInt64.ofNat n = z at *
  go_enter Tryd.func64, Tryd.ntmps64
  go_wp2
  go_ret
  exact ⟨rfl, rfl⟩
set_option maxHeartbeats 2000000 in
theorem rot_64 (x : UInt64) (n : Nat) (w : World) (h0 : 0 < n) (h1 : n < 64) :
    Calls Tryd.prog 62 #[.int .u64 (n64 x), .int .i64 n] w fun e w' => e = .returned (.int .u64 (n64 (rot64 x n))) ∧ w' = w := by
  have hrl := fun w => rl64 x n w h0 h1
  have hta := ta64
  generalize rot64 x n = y at *
  go_enter Tryd.func62, Tryd.ntmps62
  go_wp2_with (go_at_call 64; with_reducible refine (hrl _).mono ?_; rintro e w2 ⟨rfl, rfl⟩)
  go_ret
  exact ⟨rfl, rfl⟩
set_option maxHeartbeats 400000 in
theorem small_64 (x : UInt64) (a b c : Nat) (w : World) (ha : 0 < a) (ha1 : a < 64) (hb : 0 < b) (hb1 : b < 64) (hc1 : c < 64) :
    Calls Tryd.prog 60 #[.int .u64 (n64 x), .agg #[.int .i64 a, .int .i64 b, .int .i64 c]] w fun e w' => e = .returned (.int .u64 (n64 (small64 x a b c))) ∧ Ext w w' := by
  have h1 := fun w => rot_64 x a w ha ha1
  have h2 := fun w => rot_64 x b w hb hb1
  have h3 := shr_eq64 x c hc1
  have hc0 : 0 ≤ (c : Int) := by omega
  have hc2 : (c : Int) ≤ 64 := by omega
  have e : small64 x a b c = rot64 x a ^^^ rot64 x b ^^^ x >>> UInt64.ofNat c := rfl
  rw [e]
  clear e
  generalize rot64 x a = y1 at *
  generalize rot64 x b = y2 at *
  generalize x >>> UInt64.ofNat c = y3 at *
  go_enter Tryd.func60, Tryd.ntmps60
  go_wp2
  go_quiet (first
    | (go_at_call 62; with_reducible exact Calls.quiet_of_same (h1 _))
    | (go_at_call 62; with_reducible exact Calls.quiet_of_same (h2 _)))
  go_wp2
  go_ret
  exact ⟨rfl, Ext.drewN (ext_alloc _ _) _⟩
set_option maxHeartbeats 400000 in
theorem great_64 (x : UInt64) (a b c : Nat) (w : World) (ha : 0 < a) (ha1 : a < 64) (hb : 0 < b) (hb1 : b < 64) (hc : 0 < c) (hc1 : c < 64) :
    Calls Tryd.prog 61 #[.int .u64 (n64 x), .agg #[.int .i64 a, .int .i64 b, .int .i64 c]] w fun e w' => e = .returned (.int .u64 (n64 (great64 x a b c))) ∧ Ext w w' := by
  have h1 := fun w => rot_64 x a w ha ha1
  have h2 := fun w => rot_64 x b w hb hb1
  have h3 := fun w => rot_64 x c w hc hc1
  have e : great64 x a b c = rot64 x a ^^^ rot64 x b ^^^ rot64 x c := rfl
  rw [e]
  clear e
  generalize rot64 x a = y1 at *
  generalize rot64 x b = y2 at *
  generalize rot64 x c = y3 at *
  go_enter Tryd.func61, Tryd.ntmps61
  go_wp2
  go_quiet (first
    | (go_at_call 62; with_reducible exact Calls.quiet_of_same (h1 _))
    | (go_at_call 62; with_reducible exact Calls.quiet_of_same (h2 _))
    | (go_at_call 62; with_reducible exact Calls.quiet_of_same (h3 _)))
  go_wp2
  go_ret
  exact ⟨rfl, Ext.drewN (ext_alloc _ _) _⟩
end Go.Proofs.YtgeihelkkhjjaaaDoor
end
section
/-
  Worlds in which some rows of one's own turned; what the layer hash reckons.
-/
set_option linter.unusedSimpArgs false
set_option linter.unusedVariables false
namespace Go.Cv.Hash
open Go.RowKit
structure St32 where
  (a b c d e f g h : UInt32)
def St32.l (s : St32) : List UInt32 := [s.a, s.b, s.c, s.d, s.e, s.f, s.g, s.h]
def wv64 (x : UInt64) : Value := .int .u64 (n64 x)
structure St64 where
  (a b c d e f g h : UInt64)
def St64.l (s : St64) : List UInt64 := [s.a, s.b, s.c, s.d, s.e, s.f, s.g, s.h]
def nxt64 (l : List UInt64) : UInt64 := small64 (l.getD (l.length - 2) 0) 19 61 6 + l.getD (l.length - 7) 0 + small64 (l.getD (l.length - 15) 0) 1 8 7 + l.getD (l.length - 16) 0
def sched64 : Nat → List UInt64 → List UInt64
  | 0, l => l
  | n + 1, l => sched64 n (l ++ [nxt64 l])
def one64 (s : St64) (k x : UInt64) : UInt64 := s.h + great64 s.e 14 18 41 + (s.e &&& s.f ^^^ ~~~s.e &&& s.g) + k + x
def dos64 (s : St64) : UInt64 := great64 s.a 28 34 39 + (s.a &&& s.b ^^^ s.a &&& s.c ^^^ s.b &&& s.c)
def rnd64 (s : St64) (k x : UInt64) : St64 := ⟨one64 s k x + dos64 s, s.a, s.b, s.c, s.d + one64 s k x, s.e, s.f, s.g⟩
def rnds64 : List UInt64 → List UInt64 → St64 → St64
  | k :: ks, x :: xs, s => rnds64 ks xs (rnd64 s k x)
  | _, _, s => s
def plus64 (s t : St64) : St64 := ⟨s.a + t.a, s.b + t.b, s.c + t.c, s.d + t.d, s.e + t.e, s.f + t.f, s.g + t.g, s.h + t.h⟩
/-- A block's sixteen words, mixed in. -/
def block64 (ks : List UInt64) (ws : List UInt64) (s : St64) : St64 := plus64 s (rnds64 ks (sched64 (80 - 16) (ws.take 16)) s)
/-- The first i words of a sum. -/
def addN64 (h v : List UInt64) : Nat → List UInt64
  | 0 => h
  | i + 1 => (addN64 h v i).set i (h.getD i 0 + v.getD i 0)
theorem addN_at64 (h v : List UInt64) : ∀ i j, i ≤ j → (addN64 h v i).getD j 0 = h.getD j 0
  | 0, _, _ => rfl
  | i + 1, j, hj => by
    simp only [addN64]
    rw [List.getD_eq_getElem?_getD, List.getElem?_set_ne (by omega), ← List.getD_eq_getElem?_getD]
    exact addN_at64 h v i j (by omega)
theorem addN_8_64 (s t : St64) : addN64 s.l t.l 8 = (plus64 s t).l := rfl
theorem getD_get64 (l : List UInt64) (i : Nat) (h : i < l.length) : l.getD i 0 = l[i] := by simp [List.getD, List.getElem?_eq_getElem h]
theorem nxt_at64 (cs : List UInt64) (i : Nat) (h16 : 16 ≤ i) (hi : i < cs.length) :
    nxt64 (cs.take i) = small64 (cs.getD (i - 2) 0) 19 61 6 + cs.getD (i - 7) 0 + small64 (cs.getD (i - 15) 0) 1 8 7 + cs.getD (i - 16) 0 := by
  have hl : (cs.take i).length = i := by simp; omega
  have ht : ∀ k, k < i → (cs.take i).getD k 0 = cs.getD k 0 := fun k hk => by
    rw [List.getD_eq_getElem?_getD, List.getElem?_take_of_lt hk, ← List.getD_eq_getElem?_getD]
  unfold nxt64
  rw [hl, ht _ (by omega), ht _ (by omega), ht _ (by omega), ht _ (by omega)]
theorem take_set64 (cs : List UInt64) (i : Nat) (v : UInt64) (hi : i < cs.length) : (cs.set i v).take (i + 1) = cs.take i ++ [v] := by
  rw [List.take_succ_eq_append_getElem (by simpa using hi)]
  simp [List.take_set_of_le]
end Go.Cv.Hash
end
