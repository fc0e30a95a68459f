/-
  Both disks side by side; numbers of errors.
-/
import Derived.Test.YtkgnaabmcboffaaDoorDvK
import Derived.Test.YtkgnaabmcboffaaDoorDkI
import Derived.Test.YtkgnaabmcboffaaDoorDkO
set_option linter.unusedSimpArgs false
set_option linter.unusedVariables false
namespace Go.Proofs.YtkgnaabmcboffaaDoor
open Go.RowKit Go.Cv Go.Cv.Dk
theorem remove_dk {B d : Nat} {S : DS} {bs : List Nat} (s : ByteArray) {w : World} (h : Dsk w B d S bs) (hs : s.size ≤ 281474976710656) :
    Calls Tryd.prog 30 #[.pointer (some ⟨d, 0, none⟩), .string s] w fun e w' => e = .returned (errV (rem wrap64 S s.data.toList).1) ∧ DN w B d bs (rem wrap64 S s.data.toList).2 w' := by
  obtain ⟨mb, L, h, rfl⟩ := h
  exact (remove_any B d mb S L s w h hs).mono fun e w' x => ⟨x.1, x.2.dn⟩
theorem rename_dk {B d : Nat} {S : DS} {bs : List Nat} (s t : ByteArray) {w : World} (h : Dsk w B d S bs) (hs : s.size ≤ 281474976710656) (ht : t.size ≤ 281474976710656) (hL : S.l.length < 281474976710656) :
    Calls Tryd.prog 28 #[.pointer (some ⟨d, 0, none⟩), .string s, .string t] w fun e w' => e = .returned (errV (ren wrap64 S s.data.toList t.data.toList).1) ∧ DN w B d bs (ren wrap64 S s.data.toList t.data.toList).2 w' := by
  obtain ⟨mb, L, h, rfl⟩ := h
  rw [h.ls, List.length_map] at hL
  exact (rename_any B d mb S L s t w h hs ht hL).mono fun e w' x => ⟨x.1, x.2.dn⟩
theorem steps_dk {B d : Nat} {S : DS} {bs : List Nat} {w : World} (h : Dsk w B d S bs) :
    Calls Tryd.prog 37 #[.pointer (some ⟨d, 0, none⟩)] w fun e w' => e = .returned (.int .i64 S.st) ∧ w = w' := by
  obtain ⟨mb, L, h, rfl⟩ := h
  exact steps_is B d mb S L w h
theorem used_dk {B d : Nat} {S : DS} {bs : List Nat} {w : World} (h : Dsk w B d S bs) :
    Calls Tryd.prog 19 #[.pointer (some ⟨d, 0, none⟩)] w fun e w' => e = .returned (.int .i64 (used S.l)) ∧ Ext w w' := by
  obtain ⟨mb, L, h, rfl⟩ := h
  exact used_any B d mb S L w h
theorem clone_dk {B d : Nat} {S : DS} {bs : List Nat} {w : World} (h : Dsk w B d S bs) (hL : S.l.length ≤ 1099511627776) :
    Calls Tryd.prog 14 #[.pointer (some ⟨d, 0, none⟩)] w fun e w' => ∃ bs, e = .returned (.pointer (some ⟨w.heap.size, 0, none⟩)) ∧ Dsk w' w.heap.size w.heap.size S bs ∧ Ext w w' := by
  obtain ⟨mb, L, h, rfl⟩ := h
  rw [h.ls, List.length_map] at hL
  exact dclone_any B d mb S L w h hL
/-- What is read of a name, error or bytes. -/
theorem readd_dk {B d : Nat} {S : DS} {bs : List Nat} (s : ByteArray) {w : World} (h : Dsk w B d S bs) (hs : s.size ≤ 281474976710656) :
    Calls Tryd.prog 12 #[.pointer (some ⟨d, 0, none⟩), .string s] w fun e w' => ∃ v, e = .returned (.tuple #[v, errV (rd S s.data.toList).1]) ∧ RetB w (rd S s.data.toList).2.length (rd S s.data.toList).2 v w' := by
  by_cases hf : fnd S s.data.toList = 0
  · have e1 : rd S s.data.toList = (0, cont S s.data.toList) := by unfold rd; rw [if_pos hf, hf]
    rw [e1]
    exact read_dk s h hs hf
  · obtain ⟨mb, L, h, rfl⟩ := h
    have e1 : rd S s.data.toList = (fnd S s.data.toList, []) := by unfold rd; rw [if_neg hf]
    rw [e1]
    refine (read_bad B d mb S L s w h hs hf).mono fun e w' x => ⟨.slice none 0 0, x.1, none, 0, rfl, x.2 ▸ Ext.refl w, World.ownsRow_nil _ _ _ 1, Nat.le_refl _, by unfold maxLen; omega, Rd.nil_⟩
theorem codeinf : (Tryd.prog.info? 39).map (·.comparable) = some true := by kernel_rfl
theorem code_und (w : World) (a b : Int) : (binOp .eql 26 (.iface 39 (.int .i64 a)) (.iface 39 (.int .i64 b))).run Tryd.prog w = .ok (.bool (a == b)) w :=
  run_eql_iface_int' w a b Tryd.underlying26 Tryd.underlying39 codeinf
set_option maxHeartbeats 1600000 in
theorem code_0 (w : World) : Calls Tryd.prog 24 #[.nilIface] w fun e w' => e = .returned (.int .i64 0) ∧ w = w' := by
  have hc := code_und
  go_enter Tryd.func24, Tryd.ntmps24
  go_wp2
  go_ret
  exact ⟨rfl, rfl⟩
set_option maxHeartbeats 1600000 in
theorem code_1 (w : World) : Calls Tryd.prog 24 #[.iface 39 (.int .i64 1)] w fun e w' => e = .returned (.int .i64 1) ∧ w = w' := by
  have hc := code_und
  go_enter Tryd.func24, Tryd.ntmps24
  go_wp2
  go_ret
  exact ⟨rfl, rfl⟩
set_option maxHeartbeats 1600000 in
theorem code_9 (w : World) : Calls Tryd.prog 24 #[.iface 39 (.int .i64 9)] w fun e w' => e = .returned (.int .i64 9) ∧ w = w' := by
  have hc := code_und
  go_enter Tryd.func24, Tryd.ntmps24
  go_wp2
  go_ret
  exact ⟨rfl, rfl⟩
set_option maxHeartbeats 1600000 in
theorem code_11 (w : World) : Calls Tryd.prog 24 #[.iface 39 (.int .i64 11)] w fun e w' => e = .returned (.int .i64 11) ∧ w = w' := by
  have hc := code_und
  go_enter Tryd.func24, Tryd.ntmps24
  go_wp2
  go_ret
  exact ⟨rfl, rfl⟩
set_option maxHeartbeats 1600000 in
theorem code_12 (w : World) : Calls Tryd.prog 24 #[.iface 39 (.int .i64 12)] w fun e w' => e = .returned (.int .i64 12) ∧ w = w' := by
  have hc := code_und
  go_enter Tryd.func24, Tryd.ntmps24
  go_wp2
  go_ret
  exact ⟨rfl, rfl⟩
/-- The numbers that a disk's errors have. -/
def Dno (n : Nat) : Prop := n = 0 ∨ n = 1 ∨ n = 9 ∨ n = 11 ∨ n = 12
theorem code_err {n : Nat} (h : Dno n) (w : World) : Calls Tryd.prog 24 #[errV n] w fun e w' => e = .returned (.int .i64 (n : Nat)) ∧ w = w' := by
  rcases h with rfl | rfl | rfl | rfl | rfl
  · exact code_0 w
  · exact code_1 w
  · exact code_9 w
  · exact code_11 w
  · exact code_12 w
theorem dno_fnd (S : DS) (x : List UInt8) : Dno (fnd S x) := by
  unfold fnd Dno
  split
  · simp
  · split <;> simp
theorem dno_app (S : DS) (x b : List UInt8) : Dno (app wrap64 S x b).1 := by
  unfold app
  split
  · simp [Dno]
  · split
    · simp [Dno]
    · split
      · simp [Dno]
      · show Dno (if (stepd S wrap64).1 then 0 else 11)
        split <;> simp [Dno]
theorem dno_syn (S : DS) (x : List UInt8) : Dno (syn wrap64 S x).1 := by
  unfold syn
  split
  · exact dno_fnd S x
  · split <;> simp [Dno]
theorem dno_trunc (S : DS) (x : List UInt8) (n : Int) : Dno (trunc wrap64 S x n).1 := by
  unfold trunc
  split
  · exact dno_fnd S x
  · split
    · simp [Dno]
    · split <;> simp [Dno]
theorem dno_ren (S : DS) (x y : List UInt8) : Dno (ren wrap64 S x y).1 := by
  unfold ren
  split
  · simp [Dno]
  · split
    · exact dno_fnd S x
    · split <;> simp [Dno]
theorem dno_rem (S : DS) (x : List UInt8) : Dno (rem wrap64 S x).1 := by
  unfold rem
  split
  · exact dno_fnd S x
  · split <;> simp [Dno]
theorem dno_cut (S : DS) (n : Int) : Dno (cutd S n).1 := by
  unfold cutd
  split <;> simp [Dno]
/-- The answer's operations at its own level. -/
theorem Rsk.ok {w : World} {B r : Nat} {S : DS} {bs : List Nat} (h : Rsk w B r S bs) : S.Ok := by
  obtain ⟨T, c, L, h, rfl⟩ := h
  exact h.ok
theorem rappend_rk {B r : Nat} {S : DS} {bs : List Nat} (s : ByteArray) (A : Option Addr) (m cb : Nat) (b : List UInt8) {w : World} (h : Rsk w B r S bs) (hL : S.l.length < 1099511627776) (hB : B ≤ w.heap.size) (hm : b.length = m) (hr : Rd w A (b.map bv)) (hap : Ap A b bs) (hbd : (cont S s.data.toList).length + m ≤ 140737488355328) :
    Calls Tryd.prog 23 #[.pointer (some ⟨r, 0, none⟩), .string s, .slice A m cb] w fun e' w' => e' = .returned (.int .i64 (app wrap64 S s.data.toList b).1) ∧ RN w B r bs (app wrap64 S s.data.toList b).2 w' := by
  obtain ⟨T, c, L, h, rfl⟩ := h
  rw [h.ls, List.length_map] at hL
  exact rappend_any B r S T c L s A m cb b w h hL hB hm hr hap hbd
theorem rsync_rk {B r : Nat} {S : DS} {bs : List Nat} (s : ByteArray) {w : World} (h : Rsk w B r S bs) (hL : S.l.length < 1099511627776) (hB : B ≤ w.heap.size) :
    Calls Tryd.prog 25 #[.pointer (some ⟨r, 0, none⟩), .string s] w fun e w' => e = .returned (.int .i64 (syn wrap64 S s.data.toList).1) ∧ RN w B r bs (syn wrap64 S s.data.toList).2 w' := by
  obtain ⟨T, c, L, h, rfl⟩ := h
  rw [h.ls, List.length_map] at hL
  exact rsync_any B r S T c L s w h (by omega) hB
theorem rtrunc_rk {B r : Nat} {S : DS} {bs : List Nat} (s : ByteArray) (z : Int) {w : World} (h : Rsk w B r S bs) (hL : S.l.length < 1099511627776) (hB : B ≤ w.heap.size) (hz : z ≤ 9223372036854775807) :
    Calls Tryd.prog 27 #[.pointer (some ⟨r, 0, none⟩), .string s, .int .i64 z] w fun e w' => e = .returned (.int .i64 (trunc wrap64 S s.data.toList z).1) ∧ RN w B r bs (trunc wrap64 S s.data.toList z).2 w' := by
  obtain ⟨T, c, L, h, rfl⟩ := h
  rw [h.ls, List.length_map] at hL
  exact rtrunc_any B r S T c L s z w h (by omega) hB hz
theorem rremove_rk {B r : Nat} {S : DS} {bs : List Nat} (s : ByteArray) {w : World} (h : Rsk w B r S bs) (hL : S.l.length < 1099511627776) (hB : B ≤ w.heap.size) :
    Calls Tryd.prog 31 #[.pointer (some ⟨r, 0, none⟩), .string s] w fun e w' => e = .returned (.int .i64 (rem wrap64 S s.data.toList).1) ∧ RN w B r bs (rem wrap64 S s.data.toList).2 w' := by
  obtain ⟨T, c, L, h, rfl⟩ := h
  rw [h.ls, List.length_map] at hL
  exact rremove_any B r S T c L s w h (by omega) hB
theorem rrename_rk {B r : Nat} {S : DS} {bs : List Nat} (s y : ByteArray) {w : World} (h : Rsk w B r S bs) (hL : S.l.length < 1099511627776) (hB : B ≤ w.heap.size) :
    Calls Tryd.prog 29 #[.pointer (some ⟨r, 0, none⟩), .string s, .string y] w fun e w' => e = .returned (.int .i64 (ren wrap64 S s.data.toList y.data.toList).1) ∧ RN w B r bs (ren wrap64 S s.data.toList y.data.toList).2 w' := by
  obtain ⟨T, c, L, h, rfl⟩ := h
  rw [h.ls, List.length_map] at hL
  exact rrename_any B r S T c L s y w h (by omega) hB
theorem rcut_rk {B r : Nat} {S : DS} {bs : List Nat} (n : Int) {w : World} (h : Rsk w B r S bs) (hn : n ≤ 9223372036854775807) :
    Calls Tryd.prog 32 #[.pointer (some ⟨r, 0, none⟩), .int .i64 n] w fun e w' => e = .returned (.int .i64 (cutd S n).1) ∧ RN w B r bs (cutd S n).2 w' := by
  obtain ⟨T, c, L, h, rfl⟩ := h
  exact (rcut_any B r S T c L n w h hn).mono fun e w' x => ⟨x.1, RN.r x.2.1 x.2.2⟩
theorem rpower_rk {B r : Nat} {S : DS} {bs : List Nat} (keep : Int) {w : World} (h : Rsk w B r S bs) (hL : S.l.length < 1099511627776) (hkp : -9223372036854775808 ≤ keep ∧ keep ≤ 9223372036854775807) :
    Calls Tryd.prog 33 #[.pointer (some ⟨r, 0, none⟩), .int .i64 keep] w fun e w' => e = .returned (.tuple #[]) ∧ RN w B r bs (Dk.pow S keep) w' := by
  obtain ⟨T, c, L, h, rfl⟩ := h
  rw [h.ls, List.length_map] at hL
  exact rpower_any B r S T c L keep w h (by omega) hkp
/-! ### both -/
/-- The program's disk and the answer's, apart. -/
structure Two (w : World) (B d r : Nat) (S S' : DS) (bs cs : List Nat) : Prop where
  d : Dsk w B d S bs
  r : Rsk w B r S' cs
  ap : ∀ x ∈ bs, x ∉ cs
theorem Two.ext {w w' : World} {B d r : Nat} {S S' : DS} {bs cs : List Nat} (h : Two w B d r S S' bs cs) (hx : Ext w w') : Two w' B d r S S' bs cs := ⟨h.d.ext hx, h.r.ext hx, h.ap⟩
theorem Two.onD {w w' : World} {B d r : Nat} {S S' S1 : DS} {bs cs : List Nat} (h : Two w B d r S S' bs cs) (k : DN w B d bs S1 w') : ∃ bs', Two w' B d r S1 S' bs' cs ∧ Stp (bs ++ cs) (bs' ++ cs) w w' := by
  obtain ⟨bs', hD, hS⟩ := k
  refine ⟨bs', ⟨hD, h.r.keep hS.k fun x hx hm => h.ap x hm hx, fun x hx hm => ?_⟩, hS.k.mono (fun x hx => by simp [hx]), fun x hx => ?_⟩
  · rcases hS.n x hx with h1 | h1
    · exact h.ap x h1 hm
    · have := (h.r.lt x hm).2; omega
  · rcases List.mem_append.1 hx with hx | hx
    · rcases hS.n x hx with h1 | h1
      · exact .inl (by simp [h1])
      · exact .inr h1
    · exact .inl (by simp [hx])
theorem Two.onR {w w' : World} {B d r : Nat} {S S' S1 : DS} {bs cs : List Nat} (h : Two w B d r S S' bs cs) (k : RN w B r cs S1 w') : ∃ cs', Two w' B d r S S1 bs cs' ∧ Stp (bs ++ cs) (bs ++ cs') w w' := by
  obtain ⟨cs', hD, hS⟩ := k
  refine ⟨cs', ⟨h.d.keep hS.k fun x hx hm => h.ap x hx hm, hD, fun x hx hm => ?_⟩, hS.k.mono (fun x hx => by simp [hx]), fun x hx => ?_⟩
  · rcases hS.n x hm with h1 | h1
    · exact h.ap x hx h1
    · have := (h.d.lt x hx).2; omega
  · rcases List.mem_append.1 hx with hx | hx
    · exact .inl (by simp [hx])
    · rcases hS.n x hx with h1 | h1
      · exact .inl (by simp [h1])
      · exact .inr h1
end Go.Proofs.YtkgnaabmcboffaaDoor
