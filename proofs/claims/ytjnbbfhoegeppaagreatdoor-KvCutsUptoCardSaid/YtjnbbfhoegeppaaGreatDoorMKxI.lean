/-
  Walks of the store: openings that are cut off.
-/
import Derived.Test.YtjnbbfhoegeppaaGreatDoorMKvR
set_option linter.unusedSimpArgs false
set_option linter.unusedVariables false
namespace Go.Proofs.YtjnbbfhoegeppaaGreatDoor
open Go.RowKit Go.Cv Go.Cv.Dk Go.Cv.Wal Go.Cv.Kv
set_option maxRecDepth 6000 in
set_option maxHeartbeats 12800000 in
/-- The removal of the new file is cut off. -/
theorem kopen_rem (B d : Nat) (S : DS) (K0 : KS) (bs : List Nat) (w : World) (h : Dsk w B d S bs) (hsn : snpS S = some K0) (ho : fnd S snL = 0 ∨ fnd S snL = 9) (hls : (cont S snL).length ≤ 134217728) (hz : (rem wrap64 S nwL).1 = 11) :
    Calls Tryz.prog 19 #[.pointer (some ⟨d, 0, none⟩)] w fun e w' => e = .returned (.tuple #[.pointer none, .iface 48 (.int .i64 11)]) ∧ DN w B d bs (rem wrap64 S nwL).2 w' := by
  refine calls_hid fun G hG => ?_
  have hm := @run_makeMap Tryz.prog
  have hBw := h.top
  have hblt : ∀ x ∈ bs, x < w.heap.size := fun x hx => (h.lt x hx).2
  have hE0 := w0_ext w d
  have hD0 := h.ext hE0
  have hP0 : PreAt (W0 w d) B (w.heap.size + 1) d w.heap.size 0 [] := w0_pre hBw
  have hsz0 := w0_size w d
  have hRm : Hid (∀ w3, Dsk w3 B d S bs → Calls Tryz.prog 54 #[.pointer (some ⟨d, 0, none⟩), .string ⟨#[115, 110, 97, 112, 46, 110, 101, 119]⟩] w3 fun e w' => e = .returned (.iface 48 (.int .i64 11)) ∧ DN w3 B d bs (rem wrap64 S nwL).2 w') := Lib.hid fun w3 hD => by
    have := remove_dk ⟨#[115, 110, 97, 112, 46, 110, 101, 119]⟩ hD (by decide)
    rw [show (rem wrap64 S (ByteArray.mk #[115, 110, 97, 112, 46, 110, 101, 119]).data.toList).1 = 11 from hz] at this
    exact this
  have hIs9 := fun w => is_yes 9 w
  have hIs11 := fun w => is_no 11 9 w (by decide)
  have hgg : Hid (∀ w', DN w B d bs (rem wrap64 S nwL).2 w' → G (.returned (.tuple #[.pointer none, .iface 48 (.int .i64 11)])) w') := Lib.hid fun w' hd => hG.out _ _ ⟨rfl, hd⟩
  clear hG
  -- the snap
  have hhead : (fnd S snL = 9 ∧ K0 = emptyK ∧ Hid (Calls Tryz.prog 18 #[.pointer (some ⟨d, 0, none⟩), .string ⟨#[115, 110, 97, 112]⟩] (W0 w d) fun e w' => e = .returned (.tuple #[.slice none 0 0, .iface 48 (.int .i64 9)]) ∧ W0 w d = w')) ∨
      (fnd S snL = 0 ∧ snpF (cont S snL) = some K0 ∧ Hid (Calls Tryz.prog 18 #[.pointer (some ⟨d, 0, none⟩), .string ⟨#[115, 110, 97, 112]⟩] (W0 w d) fun e w' => ∃ v, e = .returned (.tuple #[v, .nilIface]) ∧ RetB (W0 w d) (cont S snL).length (cont S snL) v w')) := by
    rcases ho with h0 | h0
    · refine .inr ⟨h0, ?_, Lib.hid (read_dk ⟨#[115, 110, 97, 112]⟩ hD0 (by decide) h0)⟩
      unfold snpS at hsn
      rwa [if_neg (by omega)] at hsn
    · refine .inl ⟨h0, ?_, Lib.hid ?_⟩
      · unfold snpS at hsn
        rw [if_pos h0] at hsn
        exact (Option.some.inj hsn).symm
      · have := read_bad_dk B d S bs ⟨#[115, 110, 97, 112]⟩ (W0 w d) hD0 (by decide) (by show fnd S snL ≠ 0; omega)
        rw [show fnd S (ByteArray.mk #[115, 110, 97, 112]).data.toList = 9 from h0] at this
        exact this
  have hK0 : K0.n ≤ 4611686018427387904 ∧ K0.l.length < 4294967296 := by
    rcases hhead with ⟨_, rfl, _⟩ | ⟨_, hs, _⟩
    · exact ⟨Nat.zero_le _, by show 0 < _; omega⟩
    · exact snpF_some hs
  clear hsn ho hK0
  unfold W0 at *
  obtain ⟨n1, hn1⟩ : ∃ n1, n1 = (cont S snL).length := ⟨_, rfl⟩
  rw [← hn1] at hls hhead
  replace hn1 := Lib.hid hn1
  clear hz
  go_enter Tryz.func19, Tryz.ntmps19
  rcases hhead with ⟨_, hKe, hRd⟩ | ⟨_, hsf, hRd⟩
  all_goals
    replace hRm := hRm.out
    go_wp2_with (first
        | (go_at_call 18; (with_reducible refine hRd.out.mono ?_); rintro e w1 ⟨rfl, rfl⟩; obtain ⟨L3, hL3⟩ : ∃ L3 : List GV, L3 = [] := ⟨_, rfl⟩; have hP3 : PreAt _ B (w.heap.size + 1) d w.heap.size (K0.n : Nat) L3 := (by rw [hL3, hKe]; exact hP0); have hD3 := hD0; have hE3 := hE0; have hls3 : K0.l = L3.map GV.pp := (by rw [hL3, hKe]; rfl); have hnew3 : ∀ x ∈ L3, ∀ y ∈ x.bl, w.heap.size ≤ y := (by rw [hL3]; simp); replace hP3 := Lib.hid hP3; replace hD3 := Lib.hid hD3; replace hls3 := Lib.hid hls3; replace hE3 := Lib.hid hE3; clear hL3)
        | (go_at_call 18; (with_reducible refine hRd.out.mono ?_); rintro e w1 ⟨v, rfl, A1, c1, rfl, hx1, ho1, hc1, hm1, hr1⟩)
        | (go_at_call 51; (with_reducible refine (scan_any A1 n1 c1 _ _ hn1.out.symm hc1 hr1 (by omega)).mono ?_); rintro e w2 ⟨A2, c2, vs, R1, u1, hs1, rfl, hx2, ho2, hc2, hm2, hr2, ha2⟩; obtain ⟨r1, rfl, rfl, hsd⟩ := snap_one hs1 hsf hn1.out; obtain ⟨ad2, A0, n0, c0, rfl, p2, hl2, hc02, hm02, hrd2, hf2⟩ := allb_one hr2 ha2; have hE2 := (hE0.trans hx1).trans hx2; have hP2 := hP0.ext (hx1.trans hx2); have hD2 := hD0.ext (hx1.trans hx2); have hLd := load_any B (w.heap.size + 1) d w.heap.size A0 n0 c0 r1 w2 hP2 hl2 hrd2 hc02 hm02 (.inr (fun y hy hm => fresh_not hf2 hx1.size hsz0 hy hm)); replace hP2 := Lib.hid hP2)
        | (go_at_call 52; (with_reducible refine hLd.mono ?_); rintro e w3 hq3; obtain ⟨hk3, rfl, L3, hP3, hls3, hnew3'⟩ := loaded_some hq3 hsd; have hnew3 : ∀ x ∈ L3, ∀ y ∈ x.bl, w.heap.size ≤ y := (fun x hx y hy => Nat.le_trans hE2.size (hnew3' x hx y hy)); have hD3 := hD2.keep hk3 (fun x hx hm => by have := hblt x hx; simp at hm; omega); have hE3 : Ext w w3 := ext_keep hE2 hk3 (by intro x hx; simp at hx; omega); replace hP3 := Lib.hid hP3; replace hD3 := Lib.hid hD3; replace hls3 := Lib.hid hls3; replace hE3 := Lib.hid hE3)
        | (go_at_call 53; (with_reducible refine (hIs9 _).mono ?_); rintro e w' ⟨rfl, rfl⟩)
        | (go_at_call 53; (with_reducible refine (hIs11 _).mono ?_); rintro e w' ⟨rfl, rfl⟩)
        | (go_at_call 54; (with_reducible refine (hRm _ hD3.out).mono ?_); rintro e w4 ⟨rfl, bs4, hD4, hS4⟩))
    exact hgg.out _ ⟨bs4, hD4, Stp.after hE3.out hS4⟩
set_option maxRecDepth 6000 in
set_option maxHeartbeats 12800000 in
/-- The log's being cut back is cut off. -/
theorem kopen_log (B d : Nat) (S : DS) (K0 : KS) (bs : List Nat) (w : World) (h : Dsk w B d S bs) (hsn : snpS S = some K0) (ho : fnd S snL = 0 ∨ fnd S snL = 9) (hls : (cont S snL).length ≤ 134217728) (hq : (rem wrap64 S nwL).1 = 0 ∨ (rem wrap64 S nwL).1 = 9)
    (hl : fnd (rem wrap64 S nwL).2 logL = 0) (hll : (cont (rem wrap64 S nwL).2 logL).length ≤ 134217728) (hz : (lcut wrap64 (rem wrap64 S nwL).2 logL (scU (cont (rem wrap64 S nwL).2 logL))).1 = 11) :
    Calls Tryz.prog 19 #[.pointer (some ⟨d, 0, none⟩)] w fun e w' => e = .returned (.tuple #[.pointer none, .iface 48 (.int .i64 11)]) ∧ DN w B d bs (lcut wrap64 (rem wrap64 S nwL).2 logL (scU (cont (rem wrap64 S nwL).2 logL))).2 w' := by
  refine calls_hid fun G hG => ?_
  have hm := @run_makeMap Tryz.prog
  have hBw := h.top
  have hblt : ∀ x ∈ bs, x < w.heap.size := fun x hx => (h.lt x hx).2
  have hE0 := w0_ext w d
  have hD0 := h.ext hE0
  have hP0 : PreAt (W0 w d) B (w.heap.size + 1) d w.heap.size 0 [] := w0_pre hBw
  have hsz0 := w0_size w d
  have hRm : ∀ w3, Dsk w3 B d S bs → Calls Tryz.prog 54 #[.pointer (some ⟨d, 0, none⟩), .string ⟨#[115, 110, 97, 112, 46, 110, 101, 119]⟩] w3 fun e w' => e = .returned (errV (rem wrap64 S nwL).1) ∧ DN w3 B d bs (rem wrap64 S nwL).2 w' := fun w3 hD => remove_dk ⟨#[115, 110, 97, 112, 46, 110, 101, 119]⟩ hD (by decide)
  have hWo : Hid (∀ w4 bs4, Dsk w4 B d (rem wrap64 S nwL).2 bs4 → Calls Tryz.prog 55 #[.pointer (some ⟨d, 0, none⟩), .string ⟨#[108, 111, 103]⟩] w4 fun e w' => e = .returned (.tuple #[.pointer none, .slice none 0 0, .iface 48 (.int .i64 11)]) ∧ DN w4 B d bs4 (lcut wrap64 (rem wrap64 S nwL).2 logL (scU (cont (rem wrap64 S nwL).2 logL))).2 w') := Lib.hid fun w4 bs4 hD => by
    have := wopen_cut B d _ bs4 ⟨#[108, 111, 103]⟩ w4 _ _ hD (by decide) hl (sc_spec _) (by show (cont (rem wrap64 S nwL).2 logL).length ≤ _; omega) (by show (lcut wrap64 (rem wrap64 S nwL).2 logL (scU (cont (rem wrap64 S nwL).2 logL))).1 ≠ 0; rw [hz]; decide)
    rw [show (lcut wrap64 (rem wrap64 S nwL).2 (ByteArray.mk #[108, 111, 103]).data.toList (scU (cont (rem wrap64 S nwL).2 (ByteArray.mk #[108, 111, 103]).data.toList))).1 = 11 from hz] at this
    exact this
  have hIs9 := fun w => is_yes 9 w
  have hgg : Hid (∀ w', DN w B d bs (lcut wrap64 (rem wrap64 S nwL).2 logL (scU (cont (rem wrap64 S nwL).2 logL))).2 w' → G (.returned (.tuple #[.pointer none, .iface 48 (.int .i64 11)])) w') := Lib.hid fun w' hd => hG.out _ _ ⟨rfl, hd⟩
  clear hG
  -- the snap
  have hhead : (fnd S snL = 9 ∧ K0 = emptyK ∧ Hid (Calls Tryz.prog 18 #[.pointer (some ⟨d, 0, none⟩), .string ⟨#[115, 110, 97, 112]⟩] (W0 w d) fun e w' => e = .returned (.tuple #[.slice none 0 0, .iface 48 (.int .i64 9)]) ∧ W0 w d = w')) ∨
      (fnd S snL = 0 ∧ snpF (cont S snL) = some K0 ∧ Hid (Calls Tryz.prog 18 #[.pointer (some ⟨d, 0, none⟩), .string ⟨#[115, 110, 97, 112]⟩] (W0 w d) fun e w' => ∃ v, e = .returned (.tuple #[v, .nilIface]) ∧ RetB (W0 w d) (cont S snL).length (cont S snL) v w')) := by
    rcases ho with h0 | h0
    · refine .inr ⟨h0, ?_, Lib.hid (read_dk ⟨#[115, 110, 97, 112]⟩ hD0 (by decide) h0)⟩
      unfold snpS at hsn
      rwa [if_neg (by omega)] at hsn
    · refine .inl ⟨h0, ?_, Lib.hid ?_⟩
      · unfold snpS at hsn
        rw [if_pos h0] at hsn
        exact (Option.some.inj hsn).symm
      · have := read_bad_dk B d S bs ⟨#[115, 110, 97, 112]⟩ (W0 w d) hD0 (by decide) (by show fnd S snL ≠ 0; omega)
        rw [show fnd S (ByteArray.mk #[115, 110, 97, 112]).data.toList = 9 from h0] at this
        exact this
  have hK0 : K0.n ≤ 4611686018427387904 ∧ K0.l.length < 4294967296 := by
    rcases hhead with ⟨_, rfl, _⟩ | ⟨_, hs, _⟩
    · exact ⟨Nat.zero_le _, by show 0 < _; omega⟩
    · exact snpF_some hs
  clear hsn ho hK0
  unfold W0 at *
  obtain ⟨n1, hn1⟩ : ∃ n1, n1 = (cont S snL).length := ⟨_, rfl⟩
  rw [← hn1] at hls hhead
  replace hn1 := Lib.hid hn1
  clear hz hl hll
  have e9 : errV 9 = .iface 48 (.int .i64 9) := rfl
  have hqq : Hid (∀ w3, Dsk w3 B d S bs → Calls Tryz.prog 54 #[.pointer (some ⟨d, 0, none⟩), .string ⟨#[115, 110, 97, 112, 46, 110, 101, 119]⟩] w3 fun e w' => e = .returned .nilIface ∧ DN w3 B d bs (rem wrap64 S nwL).2 w') ∨ Hid (∀ w3, Dsk w3 B d S bs → Calls Tryz.prog 54 #[.pointer (some ⟨d, 0, none⟩), .string ⟨#[115, 110, 97, 112, 46, 110, 101, 119]⟩] w3 fun e w' => e = .returned (.iface 48 (.int .i64 9)) ∧ DN w3 B d bs (rem wrap64 S nwL).2 w') := by
    rcases hq with hq | hq
    · rw [hq, errV_zero] at hRm; exact .inl (Lib.hid hRm)
    · rw [hq, e9] at hRm; exact .inr (Lib.hid hRm)
  clear hRm hq e9
  go_enter Tryz.func19, Tryz.ntmps19
  rcases hqq with hRm | hRm <;> rcases hhead with ⟨_, hKe, hRd⟩ | ⟨_, hsf, hRd⟩
  all_goals
    replace hRm := hRm.out
    go_wp2_with (first
        | (go_at_call 18; (with_reducible refine hRd.out.mono ?_); rintro e w1 ⟨rfl, rfl⟩; obtain ⟨L3, hL3⟩ : ∃ L3 : List GV, L3 = [] := ⟨_, rfl⟩; have hP3 : PreAt _ B (w.heap.size + 1) d w.heap.size (K0.n : Nat) L3 := (by rw [hL3, hKe]; exact hP0); have hD3 := hD0; have hE3 := hE0; have hls3 : K0.l = L3.map GV.pp := (by rw [hL3, hKe]; rfl); have hnew3 : ∀ x ∈ L3, ∀ y ∈ x.bl, w.heap.size ≤ y := (by rw [hL3]; simp); replace hP3 := Lib.hid hP3; replace hD3 := Lib.hid hD3; replace hls3 := Lib.hid hls3; replace hE3 := Lib.hid hE3; clear hL3)
        | (go_at_call 18; (with_reducible refine hRd.out.mono ?_); rintro e w1 ⟨v, rfl, A1, c1, rfl, hx1, ho1, hc1, hm1, hr1⟩)
        | (go_at_call 51; (with_reducible refine (scan_any A1 n1 c1 _ _ hn1.out.symm hc1 hr1 (by omega)).mono ?_); rintro e w2 ⟨A2, c2, vs, R1, u1, hs1, rfl, hx2, ho2, hc2, hm2, hr2, ha2⟩; obtain ⟨r1, rfl, rfl, hsd⟩ := snap_one hs1 hsf hn1.out; obtain ⟨ad2, A0, n0, c0, rfl, p2, hl2, hc02, hm02, hrd2, hf2⟩ := allb_one hr2 ha2; have hE2 := (hE0.trans hx1).trans hx2; have hP2 := hP0.ext (hx1.trans hx2); have hD2 := hD0.ext (hx1.trans hx2); have hLd := load_any B (w.heap.size + 1) d w.heap.size A0 n0 c0 r1 w2 hP2 hl2 hrd2 hc02 hm02 (.inr (fun y hy hm => fresh_not hf2 hx1.size hsz0 hy hm)); replace hP2 := Lib.hid hP2)
        | (go_at_call 52; (with_reducible refine hLd.mono ?_); rintro e w3 hq3; obtain ⟨hk3, rfl, L3, hP3, hls3, hnew3'⟩ := loaded_some hq3 hsd; have hnew3 : ∀ x ∈ L3, ∀ y ∈ x.bl, w.heap.size ≤ y := (fun x hx y hy => Nat.le_trans hE2.size (hnew3' x hx y hy)); have hD3 := hD2.keep hk3 (fun x hx hm => by have := hblt x hx; simp at hm; omega); have hE3 : Ext w w3 := ext_keep hE2 hk3 (by intro x hx; simp at hx; omega); replace hP3 := Lib.hid hP3; replace hD3 := Lib.hid hD3; replace hls3 := Lib.hid hls3; replace hE3 := Lib.hid hE3)
        | (go_at_call 53; (with_reducible refine (hIs9 _).mono ?_); rintro e w' ⟨rfl, rfl⟩)
        | (go_at_call 54; (with_reducible refine (hRm _ hD3.out).mono ?_); rintro e w4 ⟨rfl, bs4, hD4, hS4⟩)
        | (go_at_call 55; (with_reducible refine (hWo.out _ bs4 hD4).mono ?_); rintro e w5 ⟨rfl, bs5, hD5, hS5⟩))
    exact hgg.out _ ⟨bs5, hD5, Stp.after hE3.out (hS4.trans hS5)⟩
end Go.Proofs.YtjnbbfhoegeppaaGreatDoor
