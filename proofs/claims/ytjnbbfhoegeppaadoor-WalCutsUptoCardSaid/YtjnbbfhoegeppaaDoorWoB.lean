/-
  Walks of a log: it is opened.
-/
import Derived.Test.YtjnbbfhoegeppaaDoorWoA
set_option linter.unusedSimpArgs false
set_option linter.unusedVariables false
namespace Go.Proofs.YtjnbbfhoegeppaaDoor
open Go.RowKit Go.Cv Go.Cv.Dk Go.Cv.Wal
/-- Every place. -/
def Any_ (_ : World) (_ : Addr) : Prop := True
/-- A slice that is empty, or lies in none of these blocks. -/
def Apt (w : World) (bs : List Nat) (v : Value) : Prop := ∀ A n c, v = .slice A n c → n = 0 ∨ ∀ x ∈ rowOf A, x ∉ bs ∧ x < w.heap.size
theorem allB_any {S : World → Addr → Prop} {w : World} {vs : List Value} {R : List (List UInt8)} (h : AllB S w vs R) : AllB Any_ w vs R := h.imp_ (fun _ _ h _ => h) fun _ _ => trivial
theorem allB_keep {w w' : World} {bs : List Nat} (hk : Keep bs w w') : ∀ {vs : List Value} {R : List (List UInt8)}, AllB Any_ w vs R → (∀ v ∈ vs, Apt w bs v) → AllB Any_ w' vs R
  | [], [], _, _ => trivial
  | v :: vs, r :: rs, h, ha => by
    refine ⟨?_, allB_keep hk h.2 fun v hv => ha v (by simp [hv])⟩
    obtain ⟨A, n, c, rfl, h2, h3, h4, h5, h6⟩ := h.1
    refine ⟨A, n, c, rfl, h2, h3, h4, ?_, fun _ _ => trivial⟩
    rcases ha _ (by simp) A n c rfl with h0 | h0
    · subst h0
      rw [List.length_eq_zero_iff.1 h2]
      exact Rd.nil_
    · exact h5.keep hk fun ad e => (h0 ad.block (by simp [rowOf, e])).1
  | [], r :: rs, h, _ => h.elim
  | v :: vs, [], h, _ => h.elim
theorem Apt.step {w w' : World} {bs cs : List Nat} {v : Value} (h : Apt w bs v) (hs : Stp bs cs w w') : Apt w' cs v := fun A n c e => by
  have := hs.k.size
  rcases h A n c e with h0 | h0
  · exact .inl h0
  · exact .inr fun x hx => ⟨hs.not (h0 x hx).2 (h0 x hx).1, by have := (h0 x hx).2; omega⟩
/-- Records, and where they lie: in none of the blocks listed. -/
structure Recs (w : World) (A : Option Addr) (c : Nat) (R : List (List UInt8)) (bs : List Nat) : Prop where
  le : R.length ≤ c
  cm : c ≤ maxLen
  ap : R = [] ∨ ∀ x ∈ rowOf A, x ∉ bs ∧ x < w.heap.size
  rd : ∃ vs, Rd w A vs ∧ AllB Any_ w vs R ∧ ∀ v ∈ vs, Apt w bs v
theorem AllB.nil_ {S : World → Addr → Prop} {w : World} {vs : List Value} (h : AllB S w vs []) : vs = [] := by
  rcases vs with _ | ⟨v, vs⟩
  · rfl
  · exact h.elim
theorem Recs.step {w w' : World} {A : Option Addr} {c : Nat} {R : List (List UInt8)} {bs cs : List Nat} (h : Recs w A c R bs) (hs : Stp bs cs w w') : Recs w' A c R cs := by
  have hsz := hs.k.size
  obtain ⟨vs, hr, ha, hp⟩ := h.rd
  refine ⟨h.le, h.cm, ?_, vs, ?_, allB_keep hs.k ha hp, fun v hv => (hp v hv).step hs⟩
  · rcases h.ap with h0 | h0
    · exact .inl h0
    · exact .inr fun x hx => ⟨hs.not (h0 x hx).2 (h0 x hx).1, by have := (h0 x hx).2; omega⟩
  · rcases h.ap with h0 | h0
    · subst h0
      rw [AllB.nil_ ha]
      exact Rd.nil_
    · exact hr.keep hs.k fun ad e => (h0 ad.block (by simp [rowOf, e])).1
theorem Recs.ext {w w' : World} {A : Option Addr} {c : Nat} {R : List (List UInt8)} {bs : List Nat} (h : Recs w A c R bs) (hx : Ext w w') : Recs w' A c R bs := h.step (Stp.of_ext hx)
theorem Recs.of_scan {S : World → Addr → Prop} {w w' : World} {A : Option Addr} {c : Nat} {vs : List Value} {R : List (List UInt8)} {bs : List Nat} (ho : w'.ownsRow w.heap.size 22 1 (.slice A R.length c) R.length vs) (hc : R.length ≤ c) (hm : c ≤ maxLen) (hr : Rd w' A vs) (ha : AllB S w' vs R)
    (hb : ∀ x ∈ bs, x < w.heap.size) (hS : ∀ ad, S w' ad → R ≠ [] → ad.block ∉ bs ∧ ad.block < w'.heap.size) : Recs w' A c R bs := by
  refine ⟨hc, hm, .inr fun x hx => ?_, vs, hr, allB_any ha, fun v hv => ?_⟩
  · have := ho.lt x (rowOf_own hx)
    exact ⟨fun hmm => by have := hb x hmm; omega, this.2⟩
  · obtain ⟨k, hk, rfl⟩ := List.getElem_of_mem hv
    have hR : R ≠ [] := fun e => by
      subst e
      rw [AllB.nil_ ha] at hk
      cases hk
    obtain ⟨A', n, c', e, _, _, _, _, h6⟩ := AllB.get ha k hk (by rw [← ha.len]; exact hk)
    rw [e]
    intro A2 n2 c2 e2
    injection e2 with e3 e4 e5
    subst e3
    refine .inr fun x hx => ?_
    rcases A' with _ | ad
    · cases hx
    · simp [rowOf] at hx
      subst hx
      exact hS ad (h6 ad rfl) hR
theorem fresh_apt {w w' : World} {bs : List Nat} {R : List (List UInt8)} (hb : ∀ x ∈ bs, x < w.heap.size) : ∀ ad, Fresh w.heap.size 5 w' ad → R ≠ [] → ad.block ∉ bs ∧ ad.block < w'.heap.size := fun ad h _ =>
  ⟨fun hm => by have := hb _ hm; have := h.1; omega, h.2.lt⟩
set_option maxHeartbeats 800000 in
theorem open_nil (s : ByteArray) (w : World) :
    Calls Tryd.prog 8 #[.pointer none, .string s] w fun e w' => e = .returned (.tuple #[.pointer none, .slice none 0 0, .iface 34 (.int .i64 1)]) ∧ w = w' := by
  go_enter Tryd.func8, Tryd.ntmps8
  go_wp2
  go_ret3
  exact ⟨rfl, rfl⟩
section
variable (B d : Nat) (S : DS) (bs : List Nat) (s : ByteArray) (w : World)
/-- The log's own row is laid. -/
theorem log_new : LogAt (w.alloc (.cells #[.pointer (some ⟨d, 0, none⟩), .string s] 54)) w.heap.size d s := Row.alloc w [.pointer (some ⟨d, 0, none⟩), .string s] 54
theorem read_bad_dk (h : Dsk w B d S bs) (hs : s.size ≤ 281474976710656) (hf : fnd S s.data.toList ≠ 0) :
    Calls Tryd.prog 12 #[.pointer (some ⟨d, 0, none⟩), .string s] w fun e w' => e = .returned (.tuple #[.slice none 0 0, errV (fnd S s.data.toList)]) ∧ w = w' := by
  obtain ⟨mb, L, h, rfl⟩ := h
  exact read_bad B d mb S L s w h hs hf
set_option maxHeartbeats 1600000 in
theorem open_none (h : Dsk w B d S bs) (hs : s.size ≤ 281474976710656) (hf : fnd S s.data.toList = 9) (hn : nameOk s.data.toList = true) :
    Calls Tryd.prog 8 #[.pointer (some ⟨d, 0, none⟩), .string s] w fun e w' => e = .returned (.tuple #[.pointer (some ⟨w.heap.size, 0, none⟩), .slice none 0 0, .nilIface]) ∧ LogAt w' w.heap.size d s ∧ Ext w w' := by
  have hx := ext_alloc w (.cells #[.pointer (some ⟨d, 0, none⟩), .string s] 54)
  have hR := read_bad_dk B d S bs s _ (h.ext hx) hs (by rw [hf]; decide)
  rw [hf] at hR
  have hl := log_new d s w
  have hIs := fun w => is_yes 9 w
  have hN := fun w => wnamed_any s w hs
  rw [hn] at hN
  generalize hW : w.alloc (.cells #[.pointer (some ⟨d, 0, none⟩), .string s] 54) = W at *
  replace hR : Calls Tryd.prog 12 #[.pointer (some ⟨d, 0, none⟩), .string s] W fun e w' => e = .returned (.tuple #[.slice none 0 0, .iface 34 (.int .i64 9)]) ∧ W = w' := hR
  clear h hf hn
  go_enter Tryd.func8, Tryd.ntmps8
  go_wp2_with (first
    | (go_at_call 12; (with_reducible refine hR.mono ?_); rintro e w2 ⟨rfl, rfl⟩)
    | (go_at_call 20; (with_reducible refine (hIs _).mono ?_); rintro e w4 ⟨rfl, rfl⟩)
    | (go_at_call 21; (with_reducible refine (hN _).mono ?_); rintro e w5 ⟨rfl, hx5⟩))
  go_ret3
  exact ⟨rfl, hl.ext hx5, hx.trans hx5⟩
set_option maxHeartbeats 1600000 in
theorem open_unnamed (h : Dsk w B d S bs) (hs : s.size ≤ 281474976710656) (hf : fnd S s.data.toList ≠ 0) (hn : nameOk s.data.toList = false) :
    Calls Tryd.prog 8 #[.pointer (some ⟨d, 0, none⟩), .string s] w fun e w' => e = .returned (.tuple #[.pointer none, .slice none 0 0, .iface 34 (.int .i64 1)]) ∧ Ext w w' := by
  have hx := ext_alloc w (.cells #[.pointer (some ⟨d, 0, none⟩), .string s] 54)
  have hR := read_bad_dk B d S bs s _ (h.ext hx) hs hf
  have hN := fun w => wnamed_any s w hs
  rw [hn] at hN
  generalize hW : w.alloc (.cells #[.pointer (some ⟨d, 0, none⟩), .string s] 54) = W at *
  by_cases h9 : fnd S s.data.toList = 9
  · have hIs := fun w => is_yes 9 w
    rw [h9] at hR
    replace hR : Calls Tryd.prog 12 #[.pointer (some ⟨d, 0, none⟩), .string s] W fun e w' => e = .returned (.tuple #[.slice none 0 0, .iface 34 (.int .i64 9)]) ∧ W = w' := hR
    clear h hf hn h9
    go_enter Tryd.func8, Tryd.ntmps8
    go_wp2_with (first
      | (go_at_call 12; (with_reducible refine hR.mono ?_); rintro e w2 ⟨rfl, rfl⟩)
      | (go_at_call 20; (with_reducible refine (hIs _).mono ?_); rintro e w4 ⟨rfl, rfl⟩)
      | (go_at_call 21; (with_reducible refine (hN _).mono ?_); rintro e w5 ⟨rfl, hx5⟩))
    go_ret3
    exact ⟨rfl, hx.trans hx5⟩
  · rw [errV_ne hf] at hR
    have hIs := fun w => is_no ((fnd S s.data.toList : Nat) : Int) 9 w (by omega)
    generalize ((fnd S s.data.toList : Nat) : Int) = q at *
    clear h hf hn h9
    go_enter Tryd.func8, Tryd.ntmps8
    go_wp2_with (first
      | (go_at_call 12; (with_reducible refine hR.mono ?_); rintro e w2 ⟨rfl, rfl⟩)
      | (go_at_call 20; (with_reducible refine (hIs _).mono ?_); rintro e w4 ⟨rfl, rfl⟩)
      | (go_at_call 21; (with_reducible refine (hN _).mono ?_); rintro e w5 ⟨rfl, hx5⟩))
    go_ret3
    exact ⟨rfl, hx.trans hx5⟩
set_option maxHeartbeats 1600000 in
theorem open_off (h : Dsk w B d S bs) (hs : s.size ≤ 281474976710656) (hf : fnd S s.data.toList ≠ 0) (h9 : fnd S s.data.toList ≠ 9) (hn : nameOk s.data.toList = true) :
    Calls Tryd.prog 8 #[.pointer (some ⟨d, 0, none⟩), .string s] w fun e w' => e = .returned (.tuple #[.pointer none, .slice none 0 0, errV (fnd S s.data.toList)]) ∧ Ext w w' := by
  have hx := ext_alloc w (.cells #[.pointer (some ⟨d, 0, none⟩), .string s] 54)
  have hR := read_bad_dk B d S bs s _ (h.ext hx) hs hf
  have hN := fun w => wnamed_any s w hs
  rw [hn] at hN
  generalize hW : w.alloc (.cells #[.pointer (some ⟨d, 0, none⟩), .string s] 54) = W at *
  rw [errV_ne hf] at hR ⊢
  have hIs := fun w => is_no ((fnd S s.data.toList : Nat) : Int) 9 w (by omega)
  generalize ((fnd S s.data.toList : Nat) : Int) = q at *
  clear h hf hn h9
  go_enter Tryd.func8, Tryd.ntmps8
  go_wp2_with (first
    | (go_at_call 12; (with_reducible refine hR.mono ?_); rintro e w2 ⟨rfl, rfl⟩)
    | (go_at_call 20; (with_reducible refine (hIs _).mono ?_); rintro e w4 ⟨rfl, rfl⟩)
    | (go_at_call 21; (with_reducible refine (hN _).mono ?_); rintro e w5 ⟨rfl, hx5⟩))
  go_ret3
  exact ⟨rfl, hx.trans hx5⟩
/-- What an opening gives of a file that is there. -/
structure Opened (R : List (List UInt8)) (S' : DS) (e : Ending) (w' : World) : Prop where
  out : ∃ g A c cs, e = .returned (.tuple #[.pointer (some ⟨g, 0, none⟩), .slice A R.length c, .nilIface]) ∧ LogAt w' g d s ∧ g ∉ cs ∧ w.heap.size ≤ g ∧ Recs w' A c R cs ∧ Dsk w' B d S' cs ∧ Stp bs cs w w'
set_option maxRecDepth 4000 in
set_option maxHeartbeats 1600000 in
theorem open_ok (R : List (List UInt8)) (u : Nat) (h : Dsk w B d S bs) (hs : s.size ≤ 281474976710656) (hf : fnd S s.data.toList = 0) (hsc : Scans (cont S s.data.toList) R u) (hlen : (cont S s.data.toList).length ≤ 35184372088832) (hz : (lcut wrap64 S s.data.toList u).1 = 0) :
    Calls Tryd.prog 8 #[.pointer (some ⟨d, 0, none⟩), .string s] w fun e w' => Opened B d bs s w R (lcut wrap64 S s.data.toList u).2 e w' := by
  refine calls_hid fun G hG => ?_
  have hx := ext_alloc w (.cells #[.pointer (some ⟨d, 0, none⟩), .string s] 54)
  have hR := read_dk (w := w.alloc (.cells #[.pointer (some ⟨d, 0, none⟩), .string s] 54)) s (h.ext hx) hs hf
  have hl := log_new d s w
  have hlt := h.lt
  have hIs := fun w => is_nil 9 w
  have hWs : (w.alloc (.cells #[.pointer (some ⟨d, 0, none⟩), .string s] 54)).heap.size = w.heap.size + 1 := by simp
  have hul := hsc.le
  generalize hW : w.alloc (.cells #[.pointer (some ⟨d, 0, none⟩), .string s] 54) = W at *
  have hT : ∀ w3, Ext w w3 → _ := fun w3 hx3 => trunc_dk (w := w3) s (u : Int) (h.ext hx3) hs (by omega)
  obtain ⟨n, hn⟩ : ∃ n, n = (cont S s.data.toList).length := ⟨_, rfl⟩
  have hnn := Lib.hid hn
  rw [← hn] at hR hlen hul
  have hRn : R.length ≤ n := by have := hsc.count; omega
  by_cases hcut : u < n
  · have e1 : lcut wrap64 S s.data.toList u = trunc wrap64 S s.data.toList u := if_pos (by rw [← hn]; exact hcut)
    rw [e1] at hz hG
    rw [hz] at hT
    have hci : (u : Int) < (n : Int) := by omega
    generalize (trunc wrap64 S s.data.toList u).2 = S1 at *
    replace hlt := Lib.hid hlt
    replace hsc := Lib.hid hsc
    replace hT := Lib.hid hT
    replace hl := Lib.hid hl
    clear h hf hz e1 hn
    go_enter Tryd.func8, Tryd.ntmps8
    go_wp2_with (first
      | (go_at_call 12; (with_reducible refine hR.mono ?_); rintro e w2 ⟨v, rfl, A2, c2, rfl, hx2, ho2, hc2, hm2, hr2⟩)
      | (go_at_call 20; (with_reducible refine (hIs _).mono ?_); rintro e w4 ⟨rfl, rfl⟩)
      | (go_at_call 18; (with_reducible refine (scan_any A2 n c2 _ _ hnn.out.symm hc2 hr2 hlen).mono ?_); rintro e w3 ⟨A3, c3, vs, R3, u3, hs3, rfl, hx3, ho3, hc3, hm3, hr3, ha3⟩; obtain ⟨rfl, rfl⟩ := Scans.unique hs3 hsc.out; have hE3 := Lib.hid (hx.trans (hx2.trans hx3)))
      | (go_at_call 22; (with_reducible refine (hT.out w3 hE3.out).mono ?_); rintro e w5 ⟨rfl, hD5⟩; rw [errV_zero]))
    go_ret3
    obtain ⟨cs, hD, hS⟩ := hD5
    have hgb : w.heap.size ∉ bs := fun hm => by have := (hlt.out _ hm).2; omega
    have hsz2 := (hx.trans hx2).size
    have hsz3 := hx3.size
    have hWl := (hl.out.ext (hx2.trans hx3))
    refine hG.out _ _ ⟨w.heap.size, A3, c3, cs, rfl, hWl.keep hS.k hgb, hS.not hWl.lt hgb, Nat.le_refl _, ?_, hD, Stp.after hE3.out hS⟩
    exact (Recs.of_scan ho3 hc3 hm3 hr3 ha3 (fun x hxx => by have := (hlt.out _ hxx).2; omega) (fresh_apt fun x hxx => by have := (hlt.out _ hxx).2; omega)).step hS
  · obtain rfl : u = n := by omega
    have e1 : lcut wrap64 S s.data.toList u = (0, S) := if_neg (by rw [← hn]; omega)
    rw [e1] at hG
    replace hlt := Lib.hid hlt
    replace hsc := Lib.hid hsc
    replace hl := Lib.hid hl
    replace h := Lib.hid h
    clear hf hz e1 hn hT
    go_enter Tryd.func8, Tryd.ntmps8
    go_wp2_with (first
      | (go_at_call 12; (with_reducible refine hR.mono ?_); rintro e w2 ⟨v, rfl, A2, c2, rfl, hx2, ho2, hc2, hm2, hr2⟩)
      | (go_at_call 20; (with_reducible refine (hIs _).mono ?_); rintro e w4 ⟨rfl, rfl⟩)
      | (go_at_call 18; (with_reducible refine (scan_any A2 u c2 _ _ hnn.out.symm hc2 hr2 hlen).mono ?_); rintro e w3 ⟨A3, c3, vs, R3, u3, hs3, rfl, hx3, ho3, hc3, hm3, hr3, ha3⟩; obtain ⟨rfl, rfl⟩ := Scans.unique hs3 hsc.out; have hE3 := Lib.hid (hx.trans (hx2.trans hx3))))
    go_ret3
    have hgb : w.heap.size ∉ bs := fun hm => by have := (hlt.out _ hm).2; omega
    have hsz2 := (hx.trans hx2).size
    have hsz3 := hx3.size
    exact hG.out _ _ ⟨w.heap.size, A3, c3, bs, rfl, hl.out.ext (hx2.trans hx3), hgb, Nat.le_refl _, Recs.of_scan ho3 hc3 hm3 hr3 ha3 (fun x hxx => by have := (hlt.out _ hxx).2; omega) (fresh_apt fun x hxx => by have := (hlt.out _ hxx).2; omega), h.out.ext hE3.out, Stp.of_ext hE3.out⟩
end
end Go.Proofs.YtjnbbfhoegeppaaDoor
