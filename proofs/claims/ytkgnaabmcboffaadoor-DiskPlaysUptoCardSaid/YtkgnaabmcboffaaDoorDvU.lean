/-
  One thing is done with both disks: bytes are appended.
-/
import Derived.Test.YtkgnaabmcboffaaDoorDvT
set_option linter.unusedSimpArgs false
set_option linter.unusedVariables false
namespace Go.Proofs.YtkgnaabmcboffaaDoor
open Go.RowKit Go.Cv Go.Cv.Dk
theorem app_right {A : Option Addr} {b : List UInt8} {bs cs : List Nat} (h : Ap A b (bs ++ cs)) : Ap A b cs := h.imp id fun h x hx hm => h x hx (by simp [hm])
theorem own_away {w w1 : World} {B d r n c : Nat} {S S' : DS} {bs cs : List Nat} {A : Option Addr} {xs : List Value} {ty : TypeId} (h : Two w B d r S S' bs cs) (ho : w1.ownsRow w.heap.size ty 1 (.slice A n c) n xs) {z : Nat} (hz : (Value.slice A n c).ownBlock = some z) (hm : z ∈ bs ++ cs) : False := by
  have h1 := (ho.lt z hz).1
  rcases List.mem_append.1 hm with hm | hm
  · have := (h.d.lt z hm).2; omega
  · have := (h.r.lt z hm).2; omega
theorem own_away2 {w w1 w2 : World} {B d r n c : Nat} {S S' : DS} {bs cs bs' : List Nat} {A : Option Addr} {xs : List Value} {ty : TypeId} (h : Two w B d r S S' bs cs) (hS : Stp (bs ++ cs) (bs' ++ cs) w1 w2) (ho : w1.ownsRow w.heap.size ty 1 (.slice A n c) n xs) {z : Nat} (hz : (Value.slice A n c).ownBlock = some z) (hm : z ∈ bs' ++ cs) : False := by
  have h1 := (ho.lt z hz).2
  rcases hS.n z hm with h2 | h2
  · exact own_away h ho hz h2
  · omega
theorem Two.keep {w w' : World} {B d r : Nat} {S S' : DS} {bs cs ks : List Nat} (h : Two w B d r S S' bs cs) (hk : Keep ks w w') (hn : ∀ x ∈ ks, x ∉ bs ++ cs) : Two w' B d r S S' bs cs :=
  ⟨h.d.keep hk fun x hx hm => hn x hm (by simp [hx]), h.r.keep hk fun x hx hm => hn x hm (by simp [hx]), h.ap⟩
theorem stp_new {w w3 wr : World} {F cs ks : List Nat} (h : Stp F cs w w3) (hk : Keep ks w3 wr) (hn : ∀ x ∈ ks, w.heap.size ≤ x) : Stp F cs w wr := ⟨h.k.trans hk fun x hx => .inr (hn x hx), h.n⟩
set_option maxRecDepth 20000 in
set_option maxHeartbeats 3200000 in
theorem step_app0 (B d r : Nat) (S : DS) (bs cs : List Nat) (k : Int) (x y : ByteArray) (n : Int) (A : Option Addr) (m cb : Nat) (b : List UInt8) (w : World) (h : Two w B d r S S bs cs) (hk : -9223372036854775808 ≤ k ∧ k ≤ 9223372036854775807) (hj : pickI k 10 = 0) (hx : x.size ≤ 281474976710656) (hL : S.l.length < 1099511627776) (hB : B ≤ w.heap.size) (hl : b.length = m) (hr : Rd w A (b.map bv)) (hap : Ap A b (bs ++ cs)) (hbd : (cont S x.data.toList).length + m ≤ 140737488355328) :
    Calls Tryd.prog 15 #[.pointer (some ⟨d, 0, none⟩), .pointer (some ⟨r, 0, none⟩), .agg #[.int .i64 k, .string x, .string y, .int .i64 n, .slice A m cb]] w (Stepped w B d r bs cs (app wrap64 S x.data.toList b).2) := by
  refine calls_hid fun G hG => ?_
  have hP := fun w0 => pick_any k 10 w0 hk (by omega)
  rw [hj] at hP
  obtain ⟨wa, hwa⟩ : ∃ wa, wa = w.alloc (.cells #[.int .i64 k, .string x, .string y, .int .i64 n, .slice A m cb] 45) := ⟨_, rfl⟩
  have hxa : Ext w wa := by rw [hwa]; exact ext_alloc _ _
  have hRow : Row wa w.heap.size 45 (opc k x y n A m cb) := by rw [hwa]; exact Row.alloc w (opc k x y n A m cb) _
  have hbn := box_not h
  have p0 : wa.cell? ⟨w.heap.size, 0, none⟩ = some (.int .i64 k) := hRow.cell (i := 0) (by simp [opc])
  have p1 : wa.cell? ⟨w.heap.size, 1, none⟩ = some (.string x) := hRow.cell (i := 1) (by simp [opc])
  have p2 : wa.cell? ⟨w.heap.size, 2, none⟩ = some (.string y) := hRow.cell (i := 2) (by simp [opc])
  have p3 : wa.cell? ⟨w.heap.size, 3, none⟩ = some (.int .i64 n) := hRow.cell (i := 3) (by simp [opc])
  have p4 : wa.cell? ⟨w.heap.size, 4, none⟩ = some (.slice A m cb) := hRow.cell (i := 4) (by simp [opc])
  have hTa := h.ext hxa
  have hBa : B ≤ wa.heap.size := Nat.le_trans hB hxa.size
  have hg : ∀ w' bs' cs', Two w' B d r (app wrap64 S x.data.toList b).2 (app wrap64 S x.data.toList b).2 bs' cs' → Stp (bs ++ cs) (bs' ++ cs') wa w' → G (.returned (.bool true)) w' := fun w' bs' cs' h1 h2 => hG.out _ _ ⟨rfl, bs', cs', h1, Stp.after hxa h2⟩
  have hra := hr.ext hxa
  have hC := fun w0 => code_err (dno_app S x.data.toList b) w0
  replace hl := Lib.hid hl
  replace hap := Lib.hid hap
  replace hg := Lib.hid hg
  replace hwa := Lib.hid hwa
  replace hTa := Lib.hid hTa
  clear hG h hRow hj
  go_enter Tryd.func15, Tryd.ntmps15
  go_wp2_with (first
    | (go_at_call 10; (rw [← hwa.out]; with_reducible refine (hP _).mono ?_); rintro e' w' ⟨rfl, rfl⟩)
    | (at_builtin; (refine wpList_appbo rfl (.tmp 26) (.tmp 28) 22 5 rfl u8rowD wa.heap.size (.slice none 0 0) 0 [] rfl (World.ownsRow_nil _ _ _ _) A m cb b rfl hl.out hra (by omega) (Nat.le_refl _) ?_; intro A1 c1 w1 ho1 hc1 hm1 hat1 hgr1; rw [Nat.zero_add, List.nil_append] at ho1; have x1 : Ext wa w1 := (Keep.grown (bs := []) hgr1 (fun k hk => by cases hk)).below (by simp) (Nat.le_refl _); have p1' := x1.cell p1; have p4' := x1.cell p4; have hT1 := hTa.out.ext x1; have hA := append_dk x A1 m c1 b hT1.d hx hl.out (Rd.of_own ho1) (.inr (fun z hz hm => by have h1 := (ho1.lt z (rowOf_own hz)).1; have h2 := (hTa.out.d.lt z hm).2; omega)) hbd (by omega)))
    | (go_at_call 7; (with_reducible refine hA.mono ?_); rintro e' w2 ⟨rfl, hd1⟩; obtain ⟨bs1, hT2, hS2⟩ := hT1.onD hd1; have hbn1 : w.heap.size ∉ bs ++ cs := hbn; have p1b := two_keep hS2 p1' hbn; have p4b := two_keep hS2 p4' hbn; have hB2 : B ≤ w2.heap.size := Nat.le_trans hBa (Nat.le_trans x1.size hS2.k.size); have hap2 := hap.out.step (hra.ext x1) hS2; have hR := rappend_rk x A m cb b hT2.r hL hB2 hl.out hap2.2 (app_right hap2.1) hbd; have ho2 := own_keep ho1 hS2.k (fun z hz hm => own_away hTa.out ho1 hz hm); replace hT2 := Lib.hid hT2; replace hap2 := Lib.hid hap2)
    | (go_at_call 23; (with_reducible refine hR.mono ?_); rintro e' w3 ⟨rfl, hd2⟩; obtain ⟨cs3, hT3, hS3⟩ := hT2.out.onR hd2; have ho3 := own_keep ho2 hS3.k (fun z hz hm => own_away2 hTa.out hS2 ho1 hz hm); have hST := hS2.trans hS3; replace hT3 := Lib.hid hT3; replace hST := Lib.hid hST))
  clear hA hR hr hra
  have hmb : m ≤ 140737488355328 := by omega
  replace ho1 := Lib.hid ho1
  replace hC := Lib.hid hC
  replace x1 := Lib.hid x1
  go_loopw [10] (fun i wr => ∃ (j : Nat) (l : List UInt8), j ≤ m ∧ i = .int .i64 j ∧ Hid (l.length = m) ∧ wr.ownsRow wa.heap.size 5 1 (.slice A1 m c1) m (l.map bv) ∧ Keep (rowOf A1) w3 wr) (fun i _ => m - (intOf i).toNat)
  case atStart => exact ⟨0, b, Nat.zero_le _, rfl, hl, ho3, Keep.refl _ _⟩
  case round =>
    obtain ⟨j, l, hjm, rfl, hlm, ho, hkp⟩ := hrel
    by_cases hlt : j < m
    · obtain ⟨g, cs', hA1, hbg, hnc, hcm, hrw, hlc, htk⟩ := own_pos ho (by omega)
      subst hA1
      have hjl : j < l.length := by rw [hlm.out]; exact hlt
      have hcell : wr.cell? ⟨g, j, none⟩ = some (bv l[j]) := by
        have h1 := ho.cells (g := g) rfl j (bv l[j]) (by rw [List.getElem?_map, List.getElem?_eq_getElem hjl]; rfl)
        have e1 : (⟨g, 0, none⟩ : Addr).add j = ⟨g, j, none⟩ := by unfold Addr.add; split <;> simp_all
        rwa [e1] at h1
      have hfr := hrw.fro j
      have hset := own_set ho j (bv (l[j] ^^^ 255))
      have hks := hkp.same (Keep.setCell wr ⟨g, j, none⟩ (bv (l[j] ^^^ 255)))
      replace hset := Lib.hid hset
      clear hrw htk ho
      go_wp2
      exact ⟨⟨j + 1, l.set j (l[j] ^^^ 255), hlt, by simp, Lib.hid (by rw [List.length_set]; exact hlm.out), by rw [List.map_set]; exact hset.out, hks⟩, meas hlt⟩
    · have hrT : ∀ z ∈ rowOf A1, wa.heap.size ≤ z ∧ z < w1.heap.size := fun z hz => ho1.out.lt z (rowOf_own hz)
      have hnot : ∀ z ∈ rowOf A1, z ∉ bs1 ++ cs3 := fun z hz hm => by
        rcases hST.out.n z hm with h2 | h2
        · exact own_away hTa.out ho1.out (rowOf_own hz) h2
        · have := (hrT z hz).2; omega
      have hgg := hg.out wr bs1 cs3 (hT3.out.keep hkp hnot) (stp_new (Stp.after x1.out hST.out) hkp (fun z hz => (hrT z hz).1))
      clear hg hT3 hST hTa hkp ho hT2 hap2 hS2 hS3 ho2 ho3
      go_wp2_with (go_at_call 24; (with_reducible refine (hC.out _).mono ?_); rintro e' w2 ⟨rfl, rfl⟩)
      exact hgg
set_option maxRecDepth 20000 in
set_option maxHeartbeats 3200000 in
theorem step_app1 (B d r : Nat) (S : DS) (bs cs : List Nat) (k : Int) (x y : ByteArray) (n : Int) (A : Option Addr) (m cb : Nat) (b : List UInt8) (w : World) (h : Two w B d r S S bs cs) (hk : -9223372036854775808 ≤ k ∧ k ≤ 9223372036854775807) (hj : pickI k 10 = 1) (hx : x.size ≤ 281474976710656) (hL : S.l.length < 1099511627776) (hB : B ≤ w.heap.size) (hl : b.length = m) (hr : Rd w A (b.map bv)) (hap : Ap A b (bs ++ cs)) (hbd : (cont S x.data.toList).length + m ≤ 140737488355328) :
    Calls Tryd.prog 15 #[.pointer (some ⟨d, 0, none⟩), .pointer (some ⟨r, 0, none⟩), .agg #[.int .i64 k, .string x, .string y, .int .i64 n, .slice A m cb]] w (Stepped w B d r bs cs (app wrap64 S x.data.toList b).2) := by
  refine calls_hid fun G hG => ?_
  have hP := fun w0 => pick_any k 10 w0 hk (by omega)
  rw [hj] at hP
  obtain ⟨wa, hwa⟩ : ∃ wa, wa = w.alloc (.cells #[.int .i64 k, .string x, .string y, .int .i64 n, .slice A m cb] 45) := ⟨_, rfl⟩
  have hxa : Ext w wa := by rw [hwa]; exact ext_alloc _ _
  have hRow : Row wa w.heap.size 45 (opc k x y n A m cb) := by rw [hwa]; exact Row.alloc w (opc k x y n A m cb) _
  have hbn := box_not h
  have p0 : wa.cell? ⟨w.heap.size, 0, none⟩ = some (.int .i64 k) := hRow.cell (i := 0) (by simp [opc])
  have p1 : wa.cell? ⟨w.heap.size, 1, none⟩ = some (.string x) := hRow.cell (i := 1) (by simp [opc])
  have p2 : wa.cell? ⟨w.heap.size, 2, none⟩ = some (.string y) := hRow.cell (i := 2) (by simp [opc])
  have p3 : wa.cell? ⟨w.heap.size, 3, none⟩ = some (.int .i64 n) := hRow.cell (i := 3) (by simp [opc])
  have p4 : wa.cell? ⟨w.heap.size, 4, none⟩ = some (.slice A m cb) := hRow.cell (i := 4) (by simp [opc])
  have hTa := h.ext hxa
  have hBa : B ≤ wa.heap.size := Nat.le_trans hB hxa.size
  have hg : ∀ w' bs' cs', Two w' B d r (app wrap64 S x.data.toList b).2 (app wrap64 S x.data.toList b).2 bs' cs' → Stp (bs ++ cs) (bs' ++ cs') wa w' → G (.returned (.bool true)) w' := fun w' bs' cs' h1 h2 => hG.out _ _ ⟨rfl, bs', cs', h1, Stp.after hxa h2⟩
  have hra := hr.ext hxa
  have hC := fun w0 => code_err (dno_app S x.data.toList b) w0
  replace hl := Lib.hid hl
  replace hap := Lib.hid hap
  replace hg := Lib.hid hg
  replace hwa := Lib.hid hwa
  replace hTa := Lib.hid hTa
  clear hG h hRow hj
  go_enter Tryd.func15, Tryd.ntmps15
  go_wp2_with (first
    | (go_at_call 10; (rw [← hwa.out]; with_reducible refine (hP _).mono ?_); rintro e' w' ⟨rfl, rfl⟩)
    | (at_builtin; (refine wpList_appbo rfl (.tmp 26) (.tmp 28) 22 5 rfl u8rowD wa.heap.size (.slice none 0 0) 0 [] rfl (World.ownsRow_nil _ _ _ _) A m cb b rfl hl.out hra (by omega) (Nat.le_refl _) ?_; intro A1 c1 w1 ho1 hc1 hm1 hat1 hgr1; rw [Nat.zero_add, List.nil_append] at ho1; have x1 : Ext wa w1 := (Keep.grown (bs := []) hgr1 (fun k hk => by cases hk)).below (by simp) (Nat.le_refl _); have p1' := x1.cell p1; have p4' := x1.cell p4; have hT1 := hTa.out.ext x1; have hA := append_dk x A1 m c1 b hT1.d hx hl.out (Rd.of_own ho1) (.inr (fun z hz hm => by have h1 := (ho1.lt z (rowOf_own hz)).1; have h2 := (hTa.out.d.lt z hm).2; omega)) hbd (by omega)))
    | (go_at_call 7; (with_reducible refine hA.mono ?_); rintro e' w2 ⟨rfl, hd1⟩; obtain ⟨bs1, hT2, hS2⟩ := hT1.onD hd1; have hbn1 : w.heap.size ∉ bs ++ cs := hbn; have p1b := two_keep hS2 p1' hbn; have p4b := two_keep hS2 p4' hbn; have hB2 : B ≤ w2.heap.size := Nat.le_trans hBa (Nat.le_trans x1.size hS2.k.size); have hap2 := hap.out.step (hra.ext x1) hS2; have hR := rappend_rk x A m cb b hT2.r hL hB2 hl.out hap2.2 (app_right hap2.1) hbd; have ho2 := own_keep ho1 hS2.k (fun z hz hm => own_away hTa.out ho1 hz hm); replace hT2 := Lib.hid hT2; replace hap2 := Lib.hid hap2)
    | (go_at_call 23; (with_reducible refine hR.mono ?_); rintro e' w3 ⟨rfl, hd2⟩; obtain ⟨cs3, hT3, hS3⟩ := hT2.out.onR hd2; have ho3 := own_keep ho2 hS3.k (fun z hz hm => own_away2 hTa.out hS2 ho1 hz hm); have hST := hS2.trans hS3; replace hT3 := Lib.hid hT3; replace hST := Lib.hid hST))
  clear hA hR hr hra
  have hmb : m ≤ 140737488355328 := by omega
  replace ho1 := Lib.hid ho1
  replace hC := Lib.hid hC
  replace x1 := Lib.hid x1
  go_loopw [10] (fun i wr => ∃ (j : Nat) (l : List UInt8), j ≤ m ∧ i = .int .i64 j ∧ Hid (l.length = m) ∧ wr.ownsRow wa.heap.size 5 1 (.slice A1 m c1) m (l.map bv) ∧ Keep (rowOf A1) w3 wr) (fun i _ => m - (intOf i).toNat)
  case atStart => exact ⟨0, b, Nat.zero_le _, rfl, hl, ho3, Keep.refl _ _⟩
  case round =>
    obtain ⟨j, l, hjm, rfl, hlm, ho, hkp⟩ := hrel
    by_cases hlt : j < m
    · obtain ⟨g, cs', hA1, hbg, hnc, hcm, hrw, hlc, htk⟩ := own_pos ho (by omega)
      subst hA1
      have hjl : j < l.length := by rw [hlm.out]; exact hlt
      have hcell : wr.cell? ⟨g, j, none⟩ = some (bv l[j]) := by
        have h1 := ho.cells (g := g) rfl j (bv l[j]) (by rw [List.getElem?_map, List.getElem?_eq_getElem hjl]; rfl)
        have e1 : (⟨g, 0, none⟩ : Addr).add j = ⟨g, j, none⟩ := by unfold Addr.add; split <;> simp_all
        rwa [e1] at h1
      have hfr := hrw.fro j
      have hset := own_set ho j (bv (l[j] ^^^ 255))
      have hks := hkp.same (Keep.setCell wr ⟨g, j, none⟩ (bv (l[j] ^^^ 255)))
      replace hset := Lib.hid hset
      clear hrw htk ho
      go_wp2
      exact ⟨⟨j + 1, l.set j (l[j] ^^^ 255), hlt, by simp, Lib.hid (by rw [List.length_set]; exact hlm.out), by rw [List.map_set]; exact hset.out, hks⟩, meas hlt⟩
    · have hrT : ∀ z ∈ rowOf A1, wa.heap.size ≤ z ∧ z < w1.heap.size := fun z hz => ho1.out.lt z (rowOf_own hz)
      have hnot : ∀ z ∈ rowOf A1, z ∉ bs1 ++ cs3 := fun z hz hm => by
        rcases hST.out.n z hm with h2 | h2
        · exact own_away hTa.out ho1.out (rowOf_own hz) h2
        · have := (hrT z hz).2; omega
      have hgg := hg.out wr bs1 cs3 (hT3.out.keep hkp hnot) (stp_new (Stp.after x1.out hST.out) hkp (fun z hz => (hrT z hz).1))
      clear hg hT3 hST hTa hkp ho hT2 hap2 hS2 hS3 ho2 ho3
      go_wp2_with (go_at_call 24; (with_reducible refine (hC.out _).mono ?_); rintro e' w2 ⟨rfl, rfl⟩)
      exact hgg
end Go.Proofs.YtkgnaabmcboffaaDoor
