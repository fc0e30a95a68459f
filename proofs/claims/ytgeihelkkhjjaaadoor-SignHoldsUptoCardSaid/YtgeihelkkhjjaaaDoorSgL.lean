/-
  More single operations: slices of slices, slices of slices' rows, appended rows; bytes.Equal and the digests of two and three texts.
-/
import Derived.Test.YtgeihelkkhjjaaaDoorSgD
import Derived.Test.YtgeihelkkhjjaaaDoorSgO
set_option linter.unusedSimpArgs false
set_option linter.unusedVariables false
namespace Go.Proofs.YtgeihelkkhjjaaaDoor
open Go.RowKit Go.Cv Go.Cv.Pr Go.Cv.Grp Go.Cv.Hash
section
variable {w : World} {o : Oper} {ev : Operand → Value} {R : Value → World → Prop} {n : Nat} {f g : Nat → UInt8} {l : List UInt8} {A : Option Addr} {c : Nat}
theorem sdig1 (A : Option Addr) (n c : Nat) (m : List UInt8) (g : Nat) (A' : Option Addr) (n' c' : Nat) (l : List UInt8) (w : World) (hm : m.length = n) (hnc : n ≤ c) (hr : Rd w A (m.map bv)) (hR : Row w g 23 [.slice A' n' c']) (hl : l.length = n') (hc' : n' ≤ c') (hr' : Rd w A' (l.map bv)) (bnd : n + n' ≤ 5000000) (hT : Tab64 w) :
    Calls Tryd.prog 15 #[.slice A n c, .slice (some ⟨g, 0, none⟩) 1 1] w fun e w' => e = .returned (.agg (bcells (sDig (m ++ l)))) ∧ Ext w w' := by
  have e : [l].flatten = l := by simp
  have h := sdig_any A n c m (some ⟨g, 0, none⟩) 1 1 _ [l] w hm hnc hr (Rd.row hR) rfl (Parts.one hl hc' hr') (by decide) (by rw [e, hl]; exact bnd) hT
  rwa [e] at h
theorem sdig2 (A : Option Addr) (n c : Nat) (m : List UInt8) (g : Nat) (A' : Option Addr) (n' c' : Nat) (l : List UInt8) (A2 : Option Addr) (n2 c2 : Nat) (l2 : List UInt8) (w : World) (hm : m.length = n) (hnc : n ≤ c) (hr : Rd w A (m.map bv)) (hR : Row w g 23 [.slice A' n' c', .slice A2 n2 c2]) (hl : l.length = n') (hc' : n' ≤ c') (hr' : Rd w A' (l.map bv)) (hl2 : l2.length = n2) (hc2 : n2 ≤ c2) (hr2 : Rd w A2 (l2.map bv)) (bnd : n + (n' + n2) ≤ 5000000) (hT : Tab64 w) :
    Calls Tryd.prog 15 #[.slice A n c, .slice (some ⟨g, 0, none⟩) 2 2] w fun e w' => e = .returned (.agg (bcells (sDig (m ++ (l ++ l2))))) ∧ Ext w w' := by
  have e : [l, l2].flatten = l ++ l2 := by simp
  have h := sdig_any A n c m (some ⟨g, 0, none⟩) 2 2 _ [l, l2] w hm hnc hr (Rd.row hR) rfl (Parts.two hl hc' hr' hl2 hc2 hr2) (by decide) (by rw [e, List.length_append, hl, hl2]; exact bnd) hT
  rwa [e] at h
theorem give_bs1 (p : Operand) (ho : o.op = .buildSlice 50 1 #[(0, p)]) (hx : ev p = .slice A n c) (h : R (.slice (some ⟨w.heap.size, 0, none⟩) 1 1) (w.alloc (.cells (List.toArray [.slice A n c]) 23))) : Gives Tryd.prog R ((execOp ev o).run Tryd.prog w) := by
  unfold execOp
  simp only [ho, List.map_toArray, List.map_cons, List.map_nil, hx]
  go_simp
  exact h
theorem give_bs2 {A' : Option Addr} {n' c' : Nat} (p q : Operand) (ho : o.op = .buildSlice 50 2 #[(0, p), (1, q)]) (hx : ev p = .slice A n c) (hy : ev q = .slice A' n' c') (h : R (.slice (some ⟨w.heap.size, 0, none⟩) 2 2) (w.alloc (.cells (List.toArray [.slice A n c, .slice A' n' c']) 23))) : Gives Tryd.prog R ((execOp ev o).run Tryd.prog w) := by
  unfold execOp
  simp only [ho, List.map_toArray, List.map_cons, List.map_nil, hx, hy]
  go_simp
  exact h
theorem give_app64 {B : Option Addr} {d : Nat} (p q : Operand) (ho : o.op = .call { callee := .builtin .append, args := #[p, q], argTypes := #[23, 23] }) (x y : List UInt8) (hp : ev p = .slice A 32 32) (hq : ev q = .slice B 32 d) (hx : x.length = 32) (hy : y.length = 32) (hrx : Rd w A (x.map bv)) (hry : Rd w B (y.map bv))
    (h : ∀ u w', slE 5 (fun g cs u => (∃ c, u = .slice (some ⟨g, 0, none⟩) 64 c) ∧ cs.take 64 = (x ++ y).map bv) u w' → Ext w w' → R u w') : Gives Tryd.prog R ((execOp ev o).run Tryd.prog w) := by
  obtain ⟨ht, z, i, hi, hz, hsize, hby, hzs⟩ := u8rowH64
  obtain ⟨v', w', hrun, hown, hext, -⟩ := run_append_new (P := Tryd.prog) w 23 o.type 5 i z 1 ht hi hz hsize hby hzs A 32 32 _ (by simpa using hx) hrx B 32 d _ (by simpa using hy) hry (by decide) (by decide) (by decide)
  unfold execOp
  simp only [ho, resolve, invoke, builtin, Sem.run_bind, Sem.run_pure, Result.andThen_ok, List.map_toArray, List.map_cons, List.map_nil, hp, hq, hrun]
  refine h v' w' ?_ hext
  rcases hown.2 with ⟨_, h0⟩ | ⟨g, cap, cur, hv, _, hh, _, _, _, hxs⟩
  · exact absurd h0 (by decide)
  · refine ⟨g, cur.toList, by unfold Row; rw [Array.toArray_toList]; exact hh, ⟨cap, hv⟩, ?_⟩
    rw [List.map_append]
    exact hxs
theorem ld_E64 {g : Nat} {T : TypeId} {cs : List Value} (hr : Row w g T cs) (ht : cs.take 64 = l.map bv) (hl : l.length = 64) (p : Operand) (ho : o.op = .load 26 p) (hx : ev p = .pointer (some ⟨g, 0, none⟩)) (h : ∀ u, u = h64 l → R u w) : Gives Tryd.prog R ((execOp ev o).run Tryd.prog w) :=
  give_load_part _ p ho g 0 hx hr (l.map bv) (by rw [List.length_map, hl, List.drop_zero]; exact ht) _ u64a rfl (by rw [List.length_map, hl]; exact info64) (h _ rfl)
theorem slS_lo {A2 : Option Addr} (p : Operand) (ho : o.op = .slice 23 p (some (.const (.int .i64 32))) none none) (hc : ev (.const (.int .i64 32)) = .int .i64 32) (hx : ev p = .slice A 64 c) (h64c : 64 ≤ c) (hA : cutA A 32 c 1 = A2) (h : R (.slice A2 32 (c - 32)) w) : Gives Tryd.prog R ((execOp ev o).run Tryd.prog w) := by
  subst hA
  have hcI : (64 : Int) ≤ (c : Int) := by omega
  unfold execOp
  simp only [ho, hx, Option.map_none, Option.map_some, hc]
  go_simp
  exact h
theorem slS_hi (p : Operand) (ho : o.op = .slice 23 p none (some (.const (.int .i64 32))) none) (hc : ev (.const (.int .i64 32)) = .int .i64 32) (hx : ev p = .slice A 64 c) (h64c : 64 ≤ c) (h : R (.slice A 32 c) w) : Gives Tryd.prog R ((execOp ev o).run Tryd.prog w) := by
  have hcI : (64 : Int) ≤ (c : Int) := by omega
  have hcI2 : (32 : Int) ≤ (c : Int) := by omega
  unfold execOp
  simp only [ho, hx, Option.map_none, Option.map_some, hc]
  go_simp
  exact h
theorem give_len (p : Operand) (ho : o.op = .call { callee := .builtin .len, args := #[p], argTypes := #[23] }) (hx : ev p = .slice A n c) (h : R (.int .i64 (n : Int)) w) : Gives Tryd.prog R ((execOp ev o).run Tryd.prog w) := by
  unfold execOp
  simp only [ho, resolve, invoke, builtin, List.map_toArray, List.map_cons, List.map_nil, hx]
  go_simp
  exact h
theorem give_neI (p q : Operand) (t : TypeId) (x y : Int) (b : Bool) (ho : o.op = .binOp .neq 3 p q t) (hx : ev p = .int .i64 x) (hy : ev q = .int .i64 y) (hb : decide (x ≠ y) = b) (h : R (.bool b) w) : Gives Tryd.prog R ((execOp ev o).run Tryd.prog w) := by
  subst hb
  unfold execOp
  simp only [ho, hx, hy]
  go_simp
  first | exact h | (simp only [decide_not] at h; exact h)
end
theorem sequal_any (A : Option Addr) (n c : Nat) (l : List UInt8) (B : Option Addr) (m d : Nat) (k : List UInt8) (w : World) (hl : l.length = n) (hr : Rd w A (l.map bv)) (hk : k.length = m) (hr2 : Rd w B (k.map bv)) :
    Calls Tryd.prog 20 #[.slice A n c, .slice B m d] w fun e w' => e = .returned (.bool (l == k)) ∧ Ext w w' := by
  have hcv1 := run_convert_rd (P := Tryd.prog) w 23 9 5 Tryd.underlying23 Tryd.underlying5 Tryd.underlying9 A n c l hl hr
  have hcv2 := run_convert_rd (P := Tryd.prog) w 23 9 5 Tryd.underlying23 Tryd.underlying5 Tryd.underlying9 B m d k hk hr2
  clear hl hk
  have e : decide ((⟨l.toArray⟩ : ByteArray) = ⟨k.toArray⟩) = (l == k) := by
    rw [Bool.eq_iff_iff, decide_eq_true_iff, beq_iff_eq, ByteArray.mk.injEq]
    exact ⟨fun h => by simpa using congrArg Array.toList h, fun h => by rw [h]⟩
  go_enter Tryd.func20, Tryd.ntmps20
  go_wp2
  go_ret
  rw [← e]
  exact ⟨rfl, Ext.refl _⟩
end Go.Proofs.YtgeihelkkhjjaaaDoor
