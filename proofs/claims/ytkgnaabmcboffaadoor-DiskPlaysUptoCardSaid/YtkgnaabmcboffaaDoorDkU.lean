/-
  The head of all statements of layer 10.
-/
import Derived.Test.YtkgnaabmcboffaaDoorDkI
set_option linter.unusedSimpArgs false
set_option linter.unusedVariables false
namespace Go.Proofs.YtkgnaabmcboffaaDoor
open Go.RowKit Go.Cv Go.Cv.Dk
theorem rd_alloc (w : World) (l : List UInt8) (T : TypeId) : Rd (w.alloc (.cells (l.map bv).toArray T)) (some ⟨w.heap.size, 0, none⟩) (l.map bv) := by
  refine Rd.of_cells fun j u hu => ?_
  have hr := Row.alloc w (l.map bv) T
  have hj : j < (l.map bv).length := by
    rcases Nat.lt_or_ge j (l.map bv).length with h | h
    · exact h
    · rw [List.getElem?_eq_none h] at hu; cases hu
  have e : (⟨w.heap.size, 0, none⟩ : Addr).add j = ⟨w.heap.size, j, none⟩ := by unfold Addr.add; split <;> simp_all
  rw [e, hr.cell hj]
  rw [List.getElem?_eq_getElem hj] at hu
  exact hu
theorem ap_fresh {w : World} {l : List UInt8} {bs : List Nat} (h : ∀ x ∈ bs, x < w.heap.size) : Ap (some ⟨w.heap.size, 0, none⟩) l bs := .inr fun x hx hm => by
  simp [rowOf] at hx
  have := h x hm
  omega
def u0 : DS := newD 10
def u1 : DS := (app wrap64 u0 [97] [1, 2, 3, 4]).2
theorem code0 : (app wrap64 u0 [97] [1, 2, 3, 4]).1 = 0 := by decide +kernel
theorem len0 : (cont u0 [97]).length ≤ 10 ∧ u0.l.length ≤ 10 := by decide +kernel
theorem up_u1 {B d : Nat} {bs : List Nat} {w : World} (h : Dsk w B d u0 bs) :
    Calls Tryd.prog 7 #[.pointer (some ⟨d, 0, none⟩), .string ⟨#[97]⟩, .slice (some ⟨w.heap.size, 0, none⟩) 4 4] (w.alloc (.cells #[.int .u8 1, .int .u8 2, .int .u8 3, .int .u8 4] 5)) fun e w' => e = .returned (.nilIface) ∧ DN w B d bs u1 w' := by
  have hx := ext_alloc w (.cells #[.int .u8 1, .int .u8 2, .int .u8 3, .int .u8 4] 5)
  have h1 := append_dk (w := w.alloc (.cells #[.int .u8 1, .int .u8 2, .int .u8 3, .int .u8 4] 5)) ⟨#[97]⟩ (some ⟨w.heap.size, 0, none⟩) 4 4 [1, 2, 3, 4] (h.ext hx) (by decide) rfl (rd_alloc w [1, 2, 3, 4] _) (ap_fresh fun x hx => (h.lt x hx).2) (by have := len0.1; show (cont u0 [97]).length + _ ≤ _; omega) (by have := len0.2; omega)
  refine h1.mono fun e w' x => ⟨x.1.trans ?_, x.2.after hx⟩
  show Ending.returned (errV (app wrap64 u0 [97] [1, 2, 3, 4]).1) = _
  rw [code0]; rfl
def u2 : DS := (syn wrap64 u1 [97]).2
theorem code1 : (syn wrap64 u1 [97]).1 = 0 := by decide +kernel
theorem up_u2 {B d : Nat} {bs : List Nat} {w : World} (h : Dsk w B d u1 bs) :
    Calls Tryd.prog 8 #[.pointer (some ⟨d, 0, none⟩), .string ⟨#[97]⟩] w fun e w' => e = .returned (.nilIface) ∧ DN w B d bs u2 w' := by
  refine (sync_dk (w := w) ⟨#[97]⟩ h (by decide)).mono fun e w' x => ⟨x.1.trans ?_, x.2⟩
  show Ending.returned (errV (syn wrap64 u1 [97]).1) = _
  rw [code1]; rfl
def u3 : DS := (app wrap64 u2 [97] [5, 6]).2
theorem code2 : (app wrap64 u2 [97] [5, 6]).1 = 0 := by decide +kernel
theorem len2 : (cont u2 [97]).length ≤ 10 ∧ u2.l.length ≤ 10 := by decide +kernel
theorem up_u3 {B d : Nat} {bs : List Nat} {w : World} (h : Dsk w B d u2 bs) :
    Calls Tryd.prog 7 #[.pointer (some ⟨d, 0, none⟩), .string ⟨#[97]⟩, .slice (some ⟨w.heap.size, 0, none⟩) 2 2] (w.alloc (.cells #[.int .u8 5, .int .u8 6] 5)) fun e w' => e = .returned (.nilIface) ∧ DN w B d bs u3 w' := by
  have hx := ext_alloc w (.cells #[.int .u8 5, .int .u8 6] 5)
  have h1 := append_dk (w := w.alloc (.cells #[.int .u8 5, .int .u8 6] 5)) ⟨#[97]⟩ (some ⟨w.heap.size, 0, none⟩) 2 2 [5, 6] (h.ext hx) (by decide) rfl (rd_alloc w [5, 6] _) (ap_fresh fun x hx => (h.lt x hx).2) (by have := len2.1; show (cont u2 [97]).length + _ ≤ _; omega) (by have := len2.2; omega)
  refine h1.mono fun e w' x => ⟨x.1.trans ?_, x.2.after hx⟩
  show Ending.returned (errV (app wrap64 u2 [97] [5, 6]).1) = _
  rw [code2]; rfl
def u4 : DS := (cutd u3 0).2
theorem code3 : (cutd u3 0).1 = 0 := by decide +kernel
theorem up_u4 {B d : Nat} {bs : List Nat} {w : World} (h : Dsk w B d u3 bs) :
    Calls Tryd.prog 9 #[.pointer (some ⟨d, 0, none⟩), .int .i64 0] w fun e w' => e = .returned (.nilIface) ∧ DN w B d bs u4 w' := by
  refine (cut_dk (w := w) 0 h (by decide)).mono fun e w' x => ⟨x.1.trans ?_, x.2⟩
  show Ending.returned (errV (cutd u3 0).1) = _
  rw [code3]; rfl
def u5 : DS := (app wrap64 u4 [97] [7]).2
theorem code4 : (app wrap64 u4 [97] [7]).1 = 11 := by decide +kernel
theorem len4 : (cont u4 [97]).length ≤ 10 ∧ u4.l.length ≤ 10 := by decide +kernel
theorem up_u5 {B d : Nat} {bs : List Nat} {w : World} (h : Dsk w B d u4 bs) :
    Calls Tryd.prog 7 #[.pointer (some ⟨d, 0, none⟩), .string ⟨#[97]⟩, .slice (some ⟨w.heap.size, 0, none⟩) 1 1] (w.alloc (.cells #[.int .u8 7] 5)) fun e w' => e = .returned (.iface 39 (.int .i64 11)) ∧ DN w B d bs u5 w' := by
  have hx := ext_alloc w (.cells #[.int .u8 7] 5)
  have h1 := append_dk (w := w.alloc (.cells #[.int .u8 7] 5)) ⟨#[97]⟩ (some ⟨w.heap.size, 0, none⟩) 1 1 [7] (h.ext hx) (by decide) rfl (rd_alloc w [7] _) (ap_fresh fun x hx => (h.lt x hx).2) (by have := len4.1; show (cont u4 [97]).length + _ ≤ _; omega) (by have := len4.2; omega)
  refine h1.mono fun e w' x => ⟨x.1.trans ?_, x.2.after hx⟩
  show Ending.returned (errV (app wrap64 u4 [97] [7]).1) = _
  rw [code4]; rfl
theorem off5 : u5.off = true := by decide +kernel
def u6 : DS := Dk.pow u5 2
theorem fnd6 : fnd u6 [97] = 0 := by decide +kernel
theorem cont6 : cont u6 [97] = [1, 2, 3, 4, 5, 6] := by decide +kernel
theorem up_on {B d : Nat} {bs : List Nat} {w : World} (h : Dsk w B d u5 bs) :
    Calls Tryd.prog 17 #[.pointer (some ⟨d, 0, none⟩)] w fun e w' => e = .returned (.bool false) ∧ w = w' := by
  refine (on_dk h).mono fun e w' x => ⟨x.1.trans ?_, x.2⟩
  rw [off5]; rfl
theorem up_pow {B d : Nat} {bs : List Nat} {w : World} (h : Dsk w B d u5 bs) :
    Calls Tryd.prog 11 #[.pointer (some ⟨d, 0, none⟩), .int .i64 2] w fun e w' => e = .returned (.tuple #[]) ∧ DN w B d bs u6 w' := power_dk 2 h (by decide)
theorem up_read {B d : Nat} {bs : List Nat} {w : World} (h : Dsk w B d u6 bs) :
    Calls Tryd.prog 12 #[.pointer (some ⟨d, 0, none⟩), .string ⟨#[97]⟩] w fun e w' => ∃ A c, e = .returned (.tuple #[.slice A 6 c, .nilIface]) ∧ Rd w' A (([1, 2, 3, 4, 5, 6] : List UInt8).map bv) ∧ Ext w w' := by
  refine (read_dk (w := w) ⟨#[97]⟩ h (by decide) fnd6).mono fun e w' x => ?_
  obtain ⟨v, rfl, hv⟩ := x
  have e1 : cont u6 (ByteArray.mk #[97]).data.toList = [1, 2, 3, 4, 5, 6] := cont6
  rw [e1] at hv
  obtain ⟨A, c, rfl, hx, _, _, _, hr⟩ := hv
  exact ⟨A, c, rfl, hr, hx⟩
theorem up_same {w : World} {A : Option Addr} {c : Nat} (hr : Rd w A (([1, 2, 3, 4, 5, 6] : List UInt8).map bv)) :
    Calls Tryd.prog 13 #[.slice A 6 c, .slice (some ⟨w.heap.size, 0, none⟩) 6 6] (w.alloc (.cells #[.int .u8 1, .int .u8 2, .int .u8 3, .int .u8 4, .int .u8 5, .int .u8 6] 5)) fun e w' => e = .returned (.bool true) ∧ Ext w w' := by
  have hx := ext_alloc w (.cells #[.int .u8 1, .int .u8 2, .int .u8 3, .int .u8 4, .int .u8 5, .int .u8 6] 5)
  refine (same10_any A 6 c [1, 2, 3, 4, 5, 6] (some ⟨w.heap.size, 0, none⟩) 6 6 [1, 2, 3, 4, 5, 6] _ rfl (hr.ext hx) rfl (rd_alloc w [1, 2, 3, 4, 5, 6] _)).mono fun e w' x => ?_
  obtain ⟨rfl, rfl⟩ := x
  exact ⟨rfl, hx⟩
set_option maxRecDepth 4000 in
set_option maxHeartbeats 1600000 in
theorem up_any (w : World) : Calls Tryd.prog 5 #[] w fun e w' => e = .returned (.bool true) ∧ Ext w w' := by
  have hN := new_dk 10 w (by decide) (by decide)
  go_enter Tryd.func5, Tryd.ntmps5
  go_wp2_with (first
    | (go_at_call 6; (with_reducible refine hN.mono ?_); rintro e w1 ⟨d, b0, rfl, D0, hx⟩; have HX := Lib.hid hx; clear hx)
    | (go_at_call 7; (with_reducible refine (up_u1 D0).mono ?_); rintro e w2 ⟨rfl, b1, D1, S1⟩)
    | (go_at_call 8; (with_reducible refine (up_u2 D1).mono ?_); rintro e w3 ⟨rfl, b2, D2, S2⟩)
    | (go_at_call 7; (with_reducible refine (up_u3 D2).mono ?_); rintro e w4 ⟨rfl, b3, D3, S3⟩)
    | (go_at_call 9; (with_reducible refine (up_u4 D3).mono ?_); rintro e w5 ⟨rfl, b4, D4, S4⟩)
    | (go_at_call 7; (with_reducible refine (up_u5 D4).mono ?_); rintro e w6 ⟨rfl, b5, D5, S5⟩)
    | (go_at_call 17; (with_reducible refine (up_on D5).mono ?_); rintro e w7 ⟨rfl, rfl⟩)
    | (go_at_call 11; (with_reducible refine (up_pow D5).mono ?_); rintro e w8 ⟨rfl, b6, D6, S6⟩)
    | (go_at_call 12; (with_reducible refine (up_read D6).mono ?_); rintro e w9 ⟨A, c, rfl, hr, hx9⟩)
    | (go_at_call 13; (with_reducible refine (up_same hr).mono ?_); rintro e w10 ⟨rfl, hx10⟩))
  go_ret
  have hS := ((((S1.trans S2).trans S3).trans S4).trans S5).trans S6
  exact ⟨rfl, (ext_keep HX.out hS.k fun x hx => (D0.lt x hx).1).trans (hx9.trans hx10)⟩
end Go.Proofs.YtkgnaabmcboffaaDoor
