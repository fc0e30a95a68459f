/-
  The walk of the statement DiskKeeps.
-/
import Derived.Test.YtkgnaabmcboffaaDoorDkU
import Derived.Test.YtkgnaabmcboffaaDoorDkKp
import Derived.Test.YtkgnaabmcboffaaDoorArgs
set_option linter.unusedSimpArgs false
set_option linter.unusedVariables false
namespace Go.Proofs.YtkgnaabmcboffaaDoor
open Go.RowKit Go.Cv Go.Cv.Dk
theorem kp1 {B d : Nat} {bs : List Nat} {w : World} {A : Option Addr} {n c : Nat} {f : List UInt8} (h : Dsk w B d (newD 1073741824) bs) (hl : f.length = n) (hr : Rd w A (f.map bv)) (ha : Ap A f bs) (hf : n ≤ 1000) :
    Calls Tryd.prog 7 #[.pointer (some ⟨d, 0, none⟩), .string ⟨#[120]⟩, .slice A n c] w fun e w' => e = .returned .nilIface ∧ DN w B d bs (one f 0 false (-1) (wrap64 (0 + 1))) w' := by
  have e1 : app wrap64 (newD 1073741824) [120] f = _ := app_first wrap64 f (by omega)
  refine (append_dk ⟨#[120]⟩ A n c f h (by decide) hl hr ha (by show 0 + n ≤ _; omega) (by show 0 < _; omega)).mono fun e w' x => ?_
  have x1 : e = .returned (errV (app wrap64 (newD 1073741824) [120] f).1) := x.1
  have x2 : DN w B d bs (app wrap64 (newD 1073741824) [120] f).2 w' := x.2
  rw [e1] at x1 x2
  exact ⟨x1, x2⟩
theorem kp2 {B d : Nat} {bs : List Nat} {w : World} {f : List UInt8} (h : Dsk w B d (one f 0 false (-1) (wrap64 (0 + 1))) bs) :
    Calls Tryd.prog 8 #[.pointer (some ⟨d, 0, none⟩), .string ⟨#[120]⟩] w fun e w' => e = .returned .nilIface ∧ DN w B d bs (k2 wrap64 f) w' := by
  have e1 : syn wrap64 (one f 0 false (-1) (wrap64 (0 + 1))) [120] = (0, k2 wrap64 f) := by rw [syn_one, if_neg (by decide)]; rfl
  refine (sync_dk ⟨#[120]⟩ h (by decide)).mono fun e w' x => ?_
  have x1 : e = .returned (errV (syn wrap64 (one f 0 false (-1) (wrap64 (0 + 1))) [120]).1) := x.1
  have x2 : DN w B d bs (syn wrap64 (one f 0 false (-1) (wrap64 (0 + 1))) [120]).2 w' := x.2
  rw [e1] at x1 x2
  exact ⟨x1, x2⟩
theorem kp3 {B d : Nat} {bs : List Nat} {w : World} {f : List UInt8} {k : Int} (h : Dsk w B d (k2 wrap64 f) bs) (h0 : 0 ≤ k) (h3 : k < 3) :
    Calls Tryd.prog 9 #[.pointer (some ⟨d, 0, none⟩), .int .i64 k] w fun e w' => e = .returned .nilIface ∧ DN w B d bs (k3 wrap64 f k) w' := by
  have e1 : cutd (k2 wrap64 f) k = (0, k3 wrap64 f k) := cut_one f f.length (-1) _ k h0
  refine (cut_dk k h (by omega)).mono fun e w' x => ?_
  rw [e1] at x
  exact x
section
variable {B d : Nat} {bs : List Nat} {w : World} {A : Option Addr} {n c : Nat} {f g : List UInt8} {k : Int}
theorem kp4 (h : Dsk w B d (k3 wrap64 f k) bs) (hl : g.length = n) (hr : Rd w A (g.map bv)) (ha : Ap A g bs) (hf : f.length ≤ 1000) (hg : n ≤ 1000) :
    Calls Tryd.prog 7 #[.pointer (some ⟨d, 0, none⟩), .string ⟨#[120]⟩, .slice A n c] w fun e w' => ∃ v, e = .returned v ∧ DN w B d bs (k4 wrap64 f g k) w' :=
  (append_dk ⟨#[120]⟩ A n c g h (by decide) hl hr ha (by show f.length + n ≤ _; omega) (by show 1 < _; omega)).mono fun e w' x => ⟨_, x.1, x.2⟩
theorem kp5 (h : Dsk w B d (k4 wrap64 f g k) bs) :
    Calls Tryd.prog 8 #[.pointer (some ⟨d, 0, none⟩), .string ⟨#[120]⟩] w fun e w' => ∃ v, e = .returned v ∧ DN w B d bs (k5 wrap64 f g k) w' :=
  (sync_dk ⟨#[120]⟩ h (by decide)).mono fun e w' x => ⟨_, x.1, x.2⟩
theorem kp6 (h : Dsk w B d (k5 wrap64 f g k) bs) (hl : g.length = n) (hr : Rd w A (g.map bv)) (ha : Ap A g bs) (hf : f.length ≤ 1000) (hg : n ≤ 1000) (h0 : 0 ≤ k) (h3 : k < 3) :
    Calls Tryd.prog 7 #[.pointer (some ⟨d, 0, none⟩), .string ⟨#[121]⟩, .slice A n c] w fun e w' => ∃ v, e = .returned v ∧ DN w B d bs (k6 wrap64 f g k) w' := by
  have hq := (keeps wrap64 f g k 0 hf (by omega) h0 h3).1 _ (.inr (.inl rfl))
  have hq2 : (cont (k5 wrap64 f g k) [121]).length ≤ 2000 := hq.2.1
  exact (append_dk ⟨#[121]⟩ A n c g h (by decide) hl hr ha (by show (cont (k5 wrap64 f g k) [121]).length + n ≤ _; omega) (by have := hq.2.2; omega)).mono fun e w' x => ⟨_, x.1, x.2⟩
theorem kp7 {keep : Int} (h : Dsk w B d (k6 wrap64 f g k) bs) (hkp : -9223372036854775808 ≤ keep ∧ keep ≤ 9223372036854775807) :
    Calls Tryd.prog 11 #[.pointer (some ⟨d, 0, none⟩), .int .i64 keep] w fun e w' => e = .returned (.tuple #[]) ∧ DN w B d bs (k7 wrap64 f g k keep) w' := power_dk keep h hkp
theorem kp8 {keep : Int} (h : Dsk w B d (k7 wrap64 f g k keep) bs) (hf : f.length ≤ 1000) (hg : g.length ≤ 1000) (h0 : 0 ≤ k) (h3 : k < 3) :
    Calls Tryd.prog 12 #[.pointer (some ⟨d, 0, none⟩), .string ⟨#[120]⟩] w fun e w' => ∃ A q c, e = .returned (.tuple #[.slice A q c, .nilIface]) ∧ f.length ≤ q ∧ q ≤ f.length + g.length ∧ Rd w' A (((f ++ g).take q).map bv) ∧ (¬ k < 2 → q = f.length + g.length) ∧ Ext w w' := by
  obtain ⟨_, h7, j, hj, hc, hk⟩ := keeps wrap64 f g k keep hf hg h0 h3
  refine (read_dk ⟨#[120]⟩ h (by decide) h7).mono fun e w' x => ?_
  obtain ⟨v, rfl, hv⟩ := x
  have e1 : cont (k7 wrap64 f g k keep) (ByteArray.mk #[120]).data.toList = f ++ g.take j := hc
  rw [e1] at hv
  obtain ⟨A, c, rfl, hx, _, _, _, hr⟩ := hv
  refine ⟨A, _, c, rfl, by simp, by simp; omega, ?_, fun h2 => ?_, hx⟩
  · have e2 : (f ++ g).take (f ++ g.take j).length = f ++ g.take j := by
      rw [List.length_append, List.take_length_add_append, List.length_take, Nat.min_eq_left hj]
    rw [e2]; exact hr
  · have := hk h2
    simp only [List.length_append, List.length_take]
    omega
end
/-- What was there at the start is as it was. -/
theorem stp_ext {w a b : World} {B d : Nat} {S : DS} {bs cs : List Nat} (hx : Ext w a) (hB : w.heap.size ≤ B) (hD : Dsk a B d S bs) (hS : Stp bs cs a b) : Ext w b := ext_keep hx hS.k fun x h => Nat.le_trans hB (hD.lt x h).1
theorem ap_ge {w a : World} {B d : Nat} {S : DS} {bs : List Nat} {A : Option Addr} {l : List UInt8} (hr : Rd w A (l.map bv)) (hB : w.heap.size ≤ B) (hD : Dsk a B d S bs) : Ap A l bs := Ap.of_lt hr fun x h => Nat.le_trans hB (hD.lt x h).1
set_option maxRecDepth 4000 in
set_option maxHeartbeats 3200000 in
theorem keeps_go (A1 : Option Addr) (n1 c1 : Nat) (f : List UInt8) (A2 : Option Addr) (n2 c2 : Nat) (g : List UInt8) (st kp : Int) (w : World) (hl1 : f.length = n1) (hr1 : Rd w A1 (f.map bv)) (hl2 : g.length = n2) (hr2 : Rd w A2 (g.map bv))
    (hst : -9223372036854775808 ≤ st ∧ st ≤ 9223372036854775807) (hkp : -9223372036854775808 ≤ kp ∧ kp ≤ 9223372036854775807) (h1 : n1 ≤ 1000) (h2 : n2 ≤ 1000) :
    Calls Tryd.prog 3 #[.slice A1 n1 c1, .slice A2 n2 c2, .int .i64 st, .int .i64 kp] w fun e w' => e = .returned (.bool true) ∧ Ext w w' := by
  have hU := up_any w
  have hP := fun w => pick_any st 3 w hst (by decide)
  obtain ⟨hk0, hk3⟩ := pickI_bd (c := st) (m := 3) (by decide)
  generalize pickI st 3 = k at *
  have H1 := Lib.hid hl1
  have H2 := Lib.hid hl2
  have hf : f.length ≤ 1000 := by omega
  have hg : g.length ≤ 1000 := by omega
  clear hl1 hl2
  go_enter Tryd.func3, Tryd.ntmps3
  go_upto_region 15 with (first
    | (go_at_call 5; (with_reducible refine hU.mono ?_); rintro e w1 ⟨rfl, hx1⟩; have X1 := Lib.hid hx1; clear hx1)
    | (go_at_call 6; (with_reducible refine (new_dk 1073741824 w1 (by decide) (by decide)).mono ?_); rintro e w2 ⟨d, b0, rfl, D0, hx2⟩; have HB := Lib.hid X1.out.size; have X2 := Lib.hid (X1.out.trans hx2); clear hx2)
    | (go_at_call 7; (with_reducible refine (kp1 D0 H1.out (hr1.ext X2.out) (ap_ge hr1 HB.out D0) h1).mono ?_); rintro e w3 ⟨rfl, b1, D1, S1⟩; have X3 := Lib.hid (stp_ext X2.out HB.out D0 S1); clear S1)
    | (go_at_call 8; (with_reducible refine (kp2 D1).mono ?_); rintro e w4 ⟨rfl, b2, D2, S2⟩; have X4 := Lib.hid (stp_ext X3.out HB.out D1 S2); clear S2)
    | (go_at_call 10; (with_reducible refine (hP _).mono ?_); rintro e w5 ⟨rfl, rfl⟩)
    | (go_at_call 9; (with_reducible refine (kp3 D2 hk0 hk3).mono ?_); rintro e w6 ⟨rfl, b3, D3, S3⟩; have X6 := Lib.hid (stp_ext X4.out HB.out D2 S3); clear S3)
    | (go_at_call 7; (with_reducible refine (kp4 D3 H2.out (hr2.ext X6.out) (ap_ge hr2 HB.out D3) hf h2).mono ?_); rintro e w7 ⟨v7, rfl, b4, D4, S4⟩; have X7 := Lib.hid (stp_ext X6.out HB.out D3 S4); clear S4)
    | (go_at_call 8; (with_reducible refine (kp5 D4).mono ?_); rintro e w8 ⟨v8, rfl, b5, D5, S5⟩; have X8 := Lib.hid (stp_ext X7.out HB.out D4 S5); clear S5)
    | (go_at_call 7; (with_reducible refine (kp6 D5 H2.out (hr2.ext X8.out) (ap_ge hr2 HB.out D5) hf h2 hk0 hk3).mono ?_); rintro e w9 ⟨v9, rfl, b6, D6, S6⟩; have X9 := Lib.hid (stp_ext X8.out HB.out D5 S6); clear S6)
    | (go_at_call 11; (with_reducible refine (kp7 D6 hkp).mono ?_); rintro e w10 ⟨rfl, b7, D7, S7⟩; have X10 := Lib.hid (stp_ext X9.out HB.out D6 S7); clear S7)
    | (go_at_call 12; (with_reducible refine (kp8 D7 hf hg hk0 hk3).mono ?_); rintro e w11 ⟨A, q, c, rfl, hq1, hq2, hrd, hqk, hx11⟩; have X11 := Lib.hid (X10.out.trans hx11); clear hx11))
  have Q1 : n1 ≤ q := by rw [← H1.out]; exact hq1
  have Q2 : q ≤ n1 + n2 := by rw [← H1.out, ← H2.out]; exact hq2
  have Q3 : Hid (¬ k < 2 → q = n1 + n2) := Lib.hid (fun h => by rw [← H1.out, ← H2.out]; exact hqk (by omega))
  have Q4 : (n1 : Int) ≤ (q : Int) := by omega
  have Q5 : (q : Int) ≤ (n1 : Int) + (n2 : Int) := by omega
  clear hq1 hq2 hqk D0 D1 D2 D3 D4 D5 D6 D7 X1 X2 X3 X4 X6 X7 X8 X9 X10 HB
  have hrd2 := Lib.hid hrd
  clear hrd
  have HL : Hid ((f ++ g).length = n1 + n2) := Lib.hid (by rw [List.length_append, H1.out, H2.out])
  by_cases hk2 : k < 2
  · go_wp2_with (first
      | (at_builtin; refine wpList_appb0 rfl (.tmp 97) (.tmp 98) 22 5 rfl u8rowD rfl A1 n1 c1 f rfl H1.out (hr1.ext X11.out) (by omega) ?_; intro A3 c3 w12 ho3 hc3 hm3 hr3 hx3; have X12 := Lib.hid (X11.out.trans hx3); have hx13 := Lib.hid hx3; clear hx3)
      | (at_builtin; refine wpList_appb rfl (.tmp 100) (.tmp 101) 22 5 rfl u8rowD w11.heap.size _ n1 f rfl ho3 A2 n2 c2 g rfl H2.out (hr2.ext X12.out) (by omega) (hx13.out.size) ?_; intro A4 c4 w13 ho4 hc4 hm4 hr4 hx4; have X13 := Lib.hid (hx4 w11 hx13.out (Nat.le_refl _)); clear hx4)
      | (go_at_call 13; (with_reducible refine (same10_any A q c ((f ++ g).take q) A4 q c4 ((f ++ g).take q) _ (by rw [List.length_take, HL.out]; omega) (hrd2.out.ext X13.out) (by rw [List.length_take, HL.out]; omega) (by rw [List.map_take]; exact hr4.take q)).mono ?_); rintro e w14 ⟨rfl, rfl⟩)
      | (go_at_call 10; (with_reducible refine (hP _).mono ?_); rintro e w5 ⟨rfl, rfl⟩))
    go_ret
    exact ⟨rfl, X11.out.trans X13.out⟩
  · have Q6 : 2 ≤ k := by omega
    obtain rfl : q = n1 + n2 := Q3.out hk2
    go_wp2_with (first
      | (at_builtin; refine wpList_appb0 rfl (.tmp 97) (.tmp 98) 22 5 rfl u8rowD rfl A1 n1 c1 f rfl H1.out (hr1.ext X11.out) (by omega) ?_; intro A3 c3 w12 ho3 hc3 hm3 hr3 hx3; have X12 := Lib.hid (X11.out.trans hx3); have hx13 := Lib.hid hx3; clear hx3)
      | (at_builtin; refine wpList_appb rfl (.tmp 100) (.tmp 101) 22 5 rfl u8rowD w11.heap.size _ n1 f rfl ho3 A2 n2 c2 g rfl H2.out (hr2.ext X12.out) (by omega) (hx13.out.size) ?_; intro A4 c4 w13 ho4 hc4 hm4 hr4 hx4; have X13 := Lib.hid (hx4 w11 hx13.out (Nat.le_refl _)); clear hx4)
      | (go_at_call 13; (with_reducible refine (same10_any A (n1 + n2) c ((f ++ g).take (n1 + n2)) A4 (n1 + n2) c4 ((f ++ g).take (n1 + n2)) _ (by rw [List.length_take, HL.out]; omega) (hrd2.out.ext X13.out) (by rw [List.length_take, HL.out]; omega) (by rw [List.map_take]; exact hr4.take (n1 + n2))).mono ?_); rintro e w14 ⟨rfl, rfl⟩)
      | (go_at_call 10; (with_reducible refine (hP _).mono ?_); rintro e w5 ⟨rfl, rfl⟩))
    go_ret
    exact ⟨rfl, X11.out.trans X13.out⟩
set_option maxRecDepth 4000 in
set_option maxHeartbeats 3200000 in
theorem keeps_long (A1 : Option Addr) (n1 c1 : Nat) (A2 : Option Addr) (n2 c2 : Nat) (st kp : Int) (w : World) (h : 1000 < n1 ∨ 1000 < n2) (hm1 : n1 ≤ 9223372036854775807) (hm2 : n2 ≤ 9223372036854775807) :
    Calls Tryd.prog 3 #[.slice A1 n1 c1, .slice A2 n2 c2, .int .i64 st, .int .i64 kp] w fun e w' => e = .returned (.bool true) ∧ Ext w w' := by
  have hU := up_any w
  by_cases h1 : 1000 < n1
  · have h1' : (1000 : Int) < (n1 : Int) := by omega
    clear h
    go_enter Tryd.func3, Tryd.ntmps3
    go_wp2_with (first
      | (go_at_call 5; (with_reducible refine hU.mono ?_); rintro e w1 ⟨rfl, hx1⟩; have X1 := Lib.hid hx1; clear hx1)
      | (go_at_call 6; (with_reducible refine (new_dk 1073741824 w1 (by decide) (by decide)).mono ?_); rintro e w2 ⟨d, b0, rfl, D0, hx2⟩; have X2 := Lib.hid (X1.out.trans hx2); clear hx2))
    go_ret
    exact ⟨rfl, X2.out⟩
  · have h2' : (1000 : Int) < (n2 : Int) := by omega
    have h1' : (n1 : Int) ≤ 1000 := by omega
    clear h
    go_enter Tryd.func3, Tryd.ntmps3
    go_wp2_with (first
      | (go_at_call 5; (with_reducible refine hU.mono ?_); rintro e w1 ⟨rfl, hx1⟩; have X1 := Lib.hid hx1; clear hx1)
      | (go_at_call 6; (with_reducible refine (new_dk 1073741824 w1 (by decide) (by decide)).mono ?_); rintro e w2 ⟨d, b0, rfl, D0, hx2⟩; have X2 := Lib.hid (X1.out.trans hx2); clear hx2))
    go_ret
    exact ⟨rfl, X2.out⟩
theorem i64_bd {x : Int} (h : (Lit.int .i64 x).wf = true) : -9223372036854775808 ≤ x ∧ x ≤ 9223372036854775807 := by
  simp [Lit.wf, IntKind.min, IntKind.max, IntKind.signed, IntKind.bits] at h
  omega
theorem keeps_w (A1 : Option Addr) (n1 c1 : Nat) (f : List UInt8) (A2 : Option Addr) (n2 c2 : Nat) (g : List UInt8) (st kp : Int) (w : World) (_ : True) (hl1 : ArgB w A1 n1 c1 f) (hl2 : ArgB w A2 n2 c2 g) (hst : (Lit.int .i64 st).wf = true) (hkp : (Lit.int .i64 kp).wf = true) :
    Calls Tryd.prog 3 #[.slice A1 n1 c1, .slice A2 n2 c2, .int .i64 st, .int .i64 kp] w fun e w' => e = .returned (.bool true) ∧ Ext w w' := by
  have m1 := hl1.max
  have m2 := hl2.max
  have l1 := hl1.le
  have l2 := hl2.le
  unfold maxLen at m1 m2
  by_cases h1 : n1 ≤ 1000
  · by_cases h2 : n2 ≤ 1000
    · exact keeps_go A1 n1 c1 f A2 n2 c2 g st kp w hl1.len hl1.rd hl2.len hl2.rd (i64_bd hst) (i64_bd hkp) h1 h2
    · exact keeps_long A1 n1 c1 A2 n2 c2 st kp w (.inr (by omega)) (by omega) (by omega)
  · exact keeps_long A1 n1 c1 A2 n2 c2 st kp w (.inl (by omega)) (by omega) (by omega)
end Go.Proofs.YtkgnaabmcboffaaDoor
