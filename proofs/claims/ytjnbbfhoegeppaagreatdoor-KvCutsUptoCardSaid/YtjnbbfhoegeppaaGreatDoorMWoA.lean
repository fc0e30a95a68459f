/-
  Texts of the lemmas below the claim, put together: WalC WoA WoB.
-/
import Derived.Test.YtjnbbfhoegeppaaGreatDoorMWalA
import Derived.Test.YtjnbbfhoegeppaaGreatDoorMWalF
import Derived.StillTailTactics
import Derived.Deep.CutRange
section
/-
  Walks of Scan, the program's and the reference's.
-/
set_option linter.unusedSimpArgs false
set_option linter.unusedVariables false
namespace Go.Proofs.YtjnbbfhoegeppaaGreatDoor
open Go.RowKit Go.Cv Go.Cv.Wal

theorem on_firstq (A : Option Addr) (n cap : Nat) (l : List UInt8) (w : World) (hn : l.length = n) (hr : Rd w A (l.map bv)) (hm : n ≤ 140737488355328) :
    Calls Tryz.prog 66 #[.int .u32 4294967295, .slice A n cap] w fun e w' => e = .returned (.int .u32 (n32 (crc 4294967295 l))) ∧ w' = w :=
  (on_first A n cap l w hn hr hm).mono fun _ _ ⟨h1, h2⟩ => ⟨h1, h2.symm⟩
theorem on_anyq (c : UInt32) (A : Option Addr) (n cap : Nat) (l : List UInt8) (w : World) (hn : l.length = n) (hr : Rd w A (l.map bv)) (hm : n ≤ 140737488355328) :
    Calls Tryz.prog 66 #[.int .u32 (n32 c), .slice A n cap] w fun e w' => e = .returned (.int .u32 (n32 (crc c l))) ∧ w' = w :=
  (on_any c A n cap l w hn hr hm).mono fun _ _ ⟨h1, h2⟩ => ⟨h1, h2.symm⟩
theorem word_num (a b c d : UInt8) (r : List UInt8) (A : Option Addr) (n cap : Nat) (w : World) (hn : 4 ≤ n) (hr : Rd w A ((a :: b :: c :: d :: r).map bv)) :
    Calls Tryz.prog 68 #[.slice A n cap] w fun e w' => e = .returned (.int .u32 (num4 a b c d : Nat)) ∧ ∃ m, w' = w.drewN m :=
  (word_any a b c d r A n cap w hn hr).mono fun e w' ⟨h1, h2⟩ => ⟨by rw [h1, ← word4_toNat]; rfl, h2⟩

/-- Records and how many bytes they take. -/
def RetScan (S : World → Addr → Prop) (w : World) (l : List UInt8) (e : Ending) (w' : World) : Prop :=
  ∃ A c vs R u, Scans l R u ∧ e = .returned (.tuple #[.slice A R.length c, .int .i64 (u : Nat)]) ∧ Ext w w' ∧
    w'.ownsRow w.heap.size 43 1 (.slice A R.length c) R.length vs ∧ R.length ≤ c ∧ c ≤ maxLen ∧ Rd w' A vs ∧ AllB S w' vs R

theorem eight {l : List UInt8} (h : 8 ≤ l.length) : ∃ a b c d e f g i r, l = a :: b :: c :: d :: e :: f :: g :: i :: r := by
  match l, h with
  | a :: b :: c :: d :: e :: f :: g :: i :: r, _ => exact ⟨a, b, c, d, e, f, g, i, r, rfl⟩

theorem RetScan.mk_ {S : World → Addr → Prop} {w wr : World} {l : List UInt8} {A4 : Option Addr} {c4 : Nat} {vs : List Value} {R : List (List UInt8)} {k : Nat} (hk : k ≤ l.length) (hx : Ext w wr)
    (ho : wr.ownsRow w.heap.size 43 1 (.slice A4 R.length c4) R.length vs) (ha : AllB S wr vs R) (he : (R.map frame).flatten = l.take k) (hs : ∀ r ∈ R, r.length ≤ 2097152) (hl : scan1 (l.drop k) = none) :
    RetScan S w l (.returned (.tuple #[.slice A4 R.length c4, .int .i64 (k : Nat)])) wr := by
  obtain ⟨A', c', h, hc, hm, hr, _⟩ := own_form ho
  injection h with h1 h2 h3
  subst h1; subst h3
  exact ⟨A4, c4, vs, R, k, ⟨hk, he, hs, hl⟩, rfl, hx, ho, hc, hm, hr, ha⟩
theorem scan1_short {l : List UInt8} (h : l.length < 8) : scan1 l = none := by
  match l, h with
  | [], _ => rfl
  | [a], _ => rfl
  | [a, b], _ => rfl
  | [a, b, c], _ => rfl
  | [a, b, c, d], _ => rfl
  | [a, b, c, d, e], _ => rfl
  | [a, b, c, d, e, f], _ => rfl
  | [a, b, c, d, e, f, g], _ => rfl

set_option maxHeartbeats 400000 in
theorem scan_any (A : Option Addr) (n cap : Nat) (l : List UInt8) (w : World) (hl : l.length = n) (hc : n ≤ cap) (hr : Rd w A (l.map bv)) (hm : n ≤ 35184372088832) :
    Calls Tryz.prog 51 #[.slice A n cap] w (RetScan (Fresh w.heap.size 5) w l) := by
  go_enter Tryz.func51, Tryz.ntmps51
  go_wp2
  go_loopw [4, 5, 6, 7, 8] (fun o u _ _ _ wr => ∃ (A4 : Option Addr) (c4 : Nat) (vs : List Value) (R : List (List UInt8)) (k : Nat), k ≤ n ∧ u = .int .i64 k ∧ o = .slice A4 R.length c4 ∧ Ext w wr ∧
    wr.ownsRow w.heap.size 43 1 (.slice A4 R.length c4) R.length vs ∧ AllB (Fresh w.heap.size 5) wr vs R ∧ (R.map frame).flatten = l.take k ∧ (∀ r ∈ R, r.length ≤ 2097152) ∧ 8 * R.length ≤ k) (fun _ u _ _ _ _ => n - (intOf u).toNat)
  case atStart => exact ⟨none, 0, [], [], 0, by omega, rfl, rfl, Ext.refl _, World.ownsRow_nil _ _ _ _, trivial, by simp, by simp, by simp⟩
  case round =>
    obtain ⟨A4, c4, vs, R, k, hk, rfl, rfl, hx, ho, ha, he, hs, h8⟩ := hrel
    by_cases hge : 8 ≤ n - k
    · obtain ⟨a, b, c, d, e, f, g, i, r, hd⟩ := eight (l := l.drop k) (by rw [List.length_drop]; omega)
      have hrl : r.length + 8 = n - k := by
        have := congrArg List.length hd
        rw [List.length_drop] at this
        simp only [List.length_cons] at this
        omega
      have hr8 : Rd wr (cutA A k cap 1) ((a :: b :: c :: d :: e :: f :: g :: i :: r).map bv) := by
        rw [← hd, List.map_drop]
        exact (hr.ext hx).cutA_ (by simp; omega)
      have HD := Lib.hid hd
      clear hd
      go_wp2_with fail
      generalize cutA A k cap 1 = A8 at hr8 ⊢
      refine (word_num a b c d (e :: f :: g :: i :: r) _ _ _ _ (by omega) hr8).mono ?_
      rintro _ _ ⟨rfl, m, rfl⟩
      replace hx := hx.drewN m
      replace hr8 := hr8.drewN m
      replace ho : (wr.drewN m).ownsRow w.heap.size 43 1 (.slice A4 R.length c4) R.length vs := ho
      replace ha : AllB (Fresh w.heap.size 5) (wr.drewN m) vs R := ha.extF ((Ext.refl wr).drewN m)
      generalize wr.drewN m = wq at *
      have hn4 := num4_lt a b c d
      have HS1 := Lib.hid (show scan1 (a :: b :: c :: d :: e :: f :: g :: i :: r) = if num4 a b c d > 2097152 ∨ num4 a b c d > r.length then none
        else if check ([a, b, c, d] ++ r.take (num4 a b c d)) = word4 e f g i then some (r.take (num4 a b c d)) else none from rfl)
      generalize num4 a b c d = sz at *
      by_cases hbig : 2097152 < sz
      · have hbig' : (2097152 : Int) < (sz : Int) := by omega
        go_wp2
        go_ret2
        exact RetScan.mk_ (by omega) hx ho ha he hs (by rw [HD.out, HS1.out, if_pos (by omega)])
      · have hbig' : ¬ (2097152 : Int) < (sz : Int) := by omega
        by_cases hfit : n - k - 8 < sz
        · have hfit' : (n : Int) - (k : Int) - 8 < (sz : Int) := by omega
          go_wp2
          go_ret2
          exact RetScan.mk_ (by omega) hx ho ha he hs (by rw [HD.out, HS1.out, if_pos (by omega)])
        · have hfit' : ¬ (n : Int) - (k : Int) - 8 < (sz : Int) := by omega
          have hr4 : Rd wq A8 (([a, b, c, d] : List UInt8).map bv) := hr8.take 4
          have hrr : Rd wq (cutA A8 8 (cap - k) 1) ((r.take sz).map bv) := by
            have := (hr8.cutA_ (l := 8) (m := cap - k) (by simp; omega)).take sz
            simpa using this
          have hre : Rd wq (cutA A8 4 (cap - k) 1) ((e :: f :: g :: i :: r).map bv) := by
            have := hr8.cutA_ (l := 4) (m := cap - k) (by simp; omega)
            simpa using this
          have hi1 : (4 : Int) ≤ ((cap - k : Nat) : Int) := by omega
          have hi2 : (4 : Int) ≤ ((n - k : Nat) : Int) := by omega
          have hrt := Lib.hid (show (r.take sz).length = sz by rw [List.length_take]; omega)
          have HW : Hid (check ([a, b, c, d] ++ r.take sz) = ~~~(crc (crc 4294967295 [a, b, c, d]) (r.take sz))) := by
            show check ([a, b, c, d] ++ r.take sz) = _
            rw [crc_append]; rfl
          rcases hck : (~~~(crc (crc 4294967295 [a, b, c, d]) (r.take sz)) != word4 e f g i) with _ | _
          · go_wp2_with fail
            rw [show 8 + sz - 8 = sz from by omega]
            go_quiet (first
              | ((go_at_call_of 66 (4294967295 : Int); with_reducible exact Calls.quiet_of_same (on_firstq _ _ _ [a, b, c, d] _ rfl (hr4.drewN _) (by omega))))
              | ((go_at_call 66; with_reducible exact Calls.quiet_of_same (on_anyq _ _ _ _ (r.take sz) _ hrt.out (hrr.drewN _) (by omega))))
              | ((go_at_call 68; with_reducible exact Calls.quiet_of (word_any e f g i r _ _ _ _ (by omega) (hre.drewN _)))))
            have HSm : Hid (scan1 (l.drop k) = some (r.take sz)) := by
              show scan1 (l.drop k) = _
              rw [HD.out, HS1.out, if_neg (by omega), if_pos]
              rw [HW.out]
              simpa using hck
            clear hck hr4 hre
            go_wp2_with (first
              | (at_builtin; refine wpList_appb0 rfl (.const (.slice none 0 0)) (.tmp 44) 43 5 rfl u8row rfl (cutA A8 8 (cap - k) 1) sz _ (r.take sz) rfl hrt.out (hrr.drewN nq) (by omega) ?_; intro A9 c9 w9 ho9 hc9 hm9 hr9 hx9; have hxq := ((Ext.refl wq).drewN nq).trans hx9)
              | (at_builtin; refine wpList_app rfl (.tmp 43) (.tmp 46) 97 43 24 rfl rowrow w.heap.size _ R.length vs rfl (own_ext (own_ext ho hxq) (ext_alloc w9 _)) _ 1 1 [.slice A9 sz c9] rfl rfl (rd_new_one w9 _ _) (one_slice _ _ _) (by unfold maxLen; omega) (by omega) (by have := (hx.trans hxq).size; simp; omega) ?_; intro A10 c10 w10 ho10 hc10 hm10 hr10 hE10 hg10))
            have hx10 : Ext w w10 := hE10 w ((hx.trans hxq).trans (ext_alloc w9 _)) (Nat.le_refl _)
            have ho' := own_ext (own_ext ho hxq) (ext_alloc w9 (.cells #[.slice A9 sz c9] 43))
            have ha' := (ha.extF hxq).extF (ext_alloc w9 (.cells #[.slice A9 sz c9] 43))
            have hk' : ∀ ad, Fresh w.heap.size 5 (w9.alloc (.cells #[.slice A9 sz c9] 43)) ad → Fresh w.heap.size 5 w10 ad ∧ some ad.block ≠ (Value.slice A4 R.length c4).ownBlock := fun ad hf =>
              have hne := own_ty_ne ho' hf.2 (by decide)
              ⟨⟨hf.1, hf.2.grown hg10 hne⟩, hne⟩
            have hkr : ∀ A xs, Rd (w9.alloc (.cells #[.slice A9 sz c9] 43)) A xs → (∀ ad, A = some ad → Fresh w.heap.size 5 (w9.alloc (.cells #[.slice A9 sz c9] 43)) ad) → Rd w10 A xs := fun A xs h hf => h.grown hg10 fun ad e => (hk' ad (hf ad e)).2
            have hf9 : ∀ ad, A9 = some ad → Fresh w.heap.size 5 (w9.alloc (.cells #[.slice A9 sz c9] 43)) ad := fun ad e => ⟨Nat.le_trans hx.size (own_fresh ho9 ad e), (own_ty ho9 ad e).ext (ext_alloc w9 _)⟩
            go_roundw
            case rel =>
              obtain ⟨t1, t2, t3⟩ := take_frame (by omega) HSm.out
              rw [hrt.out] at t1 t2 t3
              refine ⟨A10, c10, vs ++ [.slice A9 sz c9], R ++ [r.take sz], k + (8 + sz), by omega, by go_num, by rw [List.length_append]; rfl, hx10, by rw [List.length_append]; exact ho10, ?_, ?_, ?_, by simp; omega⟩
              · exact AllB.snoc ⟨A9, sz, c9, rfl, hrt.out, hc9, hm9, hkr _ _ (hr9.ext (ext_alloc w9 _)) hf9, fun ad e => (hk' ad (hf9 ad e)).1⟩ (ha'.imp_ hkr fun ad h => (hk' ad h).1)
              · rw [List.map_append, List.flatten_append, he, t1]; simp
              · intro x hx
                rcases List.mem_append.1 hx with h | h
                · exact hs x h
                · rw [List.mem_singleton.1 h, hrt.out]; exact t3
            case measure => simp [intOf]; omega
          · go_wp2_with fail
            rw [show 8 + sz - 8 = sz from by omega]
            go_quiet (first
              | ((go_at_call_of 66 (4294967295 : Int); with_reducible exact Calls.quiet_of_same (on_firstq _ _ _ [a, b, c, d] _ rfl (hr4.drewN _) (by omega))))
              | ((go_at_call 66; with_reducible exact Calls.quiet_of_same (on_anyq _ _ _ _ (r.take sz) _ hrt.out (hrr.drewN _) (by omega))))
              | ((go_at_call 68; with_reducible exact Calls.quiet_of (word_any e f g i r _ _ _ _ (by omega) (hre.drewN _)))))
            have HSm : Hid (scan1 (l.drop k) = none) := by
              show scan1 (l.drop k) = _
              rw [HD.out, HS1.out, if_neg (by omega), if_neg]
              rw [HW.out]
              simpa using hck
            clear hr4 hre
            go_wp2
            go_ret2
            exact RetScan.mk_ (by omega) (hx.drewN nq) ho (ha.extF ((Ext.refl wq).drewN nq)) he hs HSm.out
    · go_wp2
      go_ret2
      exact RetScan.mk_ (by omega) hx ho ha he hs (scan1_short (by rw [List.length_drop]; omega))
end Go.Proofs.YtjnbbfhoegeppaaGreatDoor
end
section
/-
  Walks of a log: a record appended, all cleared.
-/
set_option linter.unusedSimpArgs false
set_option linter.unusedVariables false
namespace Go.Proofs.YtjnbbfhoegeppaaGreatDoor
open Go.RowKit Go.Cv Go.Cv.Dk Go.Cv.Wal
/-- A log. -/
def LogAt (w : World) (g d : Nat) (s : ByteArray) : Prop := Row w g 115 [.pointer (some ⟨d, 0, none⟩), .string s]
theorem LogAt.keep {w w' : World} {g d : Nat} {s : ByteArray} {bs : List Nat} (h : LogAt w g d s) (hk : Keep bs w w') (hb : g ∉ bs) : LogAt w' g d s := Row.keep h hk hb
theorem LogAt.ext {w w' : World} {g d : Nat} {s : ByteArray} (h : LogAt w g d s) (hx : Ext w w') : LogAt w' g d s := Row.ext h hx
theorem LogAt.lt {w : World} {g d : Nat} {s : ByteArray} (h : LogAt w g d s) : g < w.heap.size := Row.lt h
theorem errV_zero : errV 0 = .nilIface := rfl
theorem frame_len (l : List UInt8) : (frame l).length = 8 + l.length := frame_length l
set_option maxRecDepth 4000 in
set_option maxHeartbeats 1600000 in
theorem lapp_any (B g d : Nat) (S : DS) (bs : List Nat) (s : ByteArray) (A : Option Addr) (n c : Nat) (b : List UInt8) (w : World) (hg : LogAt w g d s) (hgb : g ∉ bs) (h : Dsk w B d S bs) (hs : s.size ≤ 281474976710656) (hl : b.length = n) (hr : Rd w A (b.map bv)) (ha : Ap A b bs) (hm : n ≤ 140737488355328)
    (hbd : (cont S s.data.toList).length + n ≤ 70368744177664) (hL : S.l.length < 281474976710656) :
    Calls Tryz.prog 35 #[.pointer (some ⟨g, 0, none⟩), .slice A n c] w fun e w' => e = .returned (errV (lapp wrap64 S s.data.toList b).1) ∧ DN w B d bs (lapp wrap64 S s.data.toList b).2 w' := by
  refine calls_hid fun G hG => ?_
  have l0 : w.cell? ⟨g, 0, none⟩ = some (.pointer (some ⟨d, 0, none⟩)) := Row.cell hg (i := 0) (by simp)
  have l1 : w.cell? ⟨g, 1, none⟩ = some (.string s) := Row.cell hg (i := 1) (by simp)
  by_cases h1 : 2097152 < n
  · have hF := frame_long A n c w h1 hm
    have hgg : G (.returned (errV 2)) w := hG.out _ _ (by
      have e : lapp wrap64 S s.data.toList b = (2, S) := by unfold lapp; rw [if_pos (by rw [hl]; exact h1)]
      rw [e]; exact ⟨rfl, bs, h, Stp.refl _ _⟩)
    clear hG h
    go_enter Tryz.func35, Tryz.ntmps35
    go_wp2_with (go_at_call 41; (with_reducible refine hF.mono ?_); rintro e w1 ⟨rfl, rfl⟩)
    exact hgg
  · have hF := frame_any A n c b w hl hr (by omega)
    have hfl : (frame b).length = 8 + n := by rw [frame_length, hl]
    have hK := fun (w1 : World) (hx : Ext w w1) (A1 : Option Addr) (c1 : Nat) (hr1 : Rd w1 A1 ((frame b).map bv)) (ho : w1.ownsRow w.heap.size 5 1 (.slice A1 (8 + n) c1) (8 + n) ((frame b).map bv)) =>
      append_dk (w := w1.drew) s A1 (8 + n) c1 (frame b) (h.ext (hx.trans (ext_drew _))) hs hfl (hr1.ext (ext_drew _)) (.inr fun x hx2 hm2 => by
        have h3 := (ho.lt x (rowOf_own hx2)).1
        have h4 := (h.lt x hm2).2
        omega) (by omega) hL
    by_cases hz : (app wrap64 S s.data.toList (frame b)).1 = 0
    · have hgg : ∀ w', DN w B d bs (syn wrap64 (app wrap64 S s.data.toList (frame b)).2 s.data.toList).2 w' → G (.returned (errV (syn wrap64 (app wrap64 S s.data.toList (frame b)).2 s.data.toList).1)) w' := fun w' hd => hG.out _ _ (by
        have e : lapp wrap64 S s.data.toList b = syn wrap64 (app wrap64 S s.data.toList (frame b)).2 s.data.toList := by unfold lapp; rw [if_neg (by rw [hl]; exact h1), if_neg (by rw [hz]; simp)]
        rw [e]; exact ⟨rfl, hd⟩)
      rw [hz] at hK
      replace hgg := Lib.hid hgg
      generalize (app wrap64 S s.data.toList (frame b)).2 = S1 at *
      generalize hsy : syn wrap64 S1 s.data.toList = sy at *
      replace hsy := Lib.hid hsy
      replace h := Lib.hid h
      clear hG hz
      go_enter Tryz.func35, Tryz.ntmps35
      go_upto_region 4 with (go_at_call 41; (with_reducible refine hF.mono ?_); rintro e w1 ⟨A1, c1, rfl, hx1, ho1, hc1, hm1, hr1⟩; have m0 := Ext.cell hx1 l0; have m1 := Ext.cell hx1 l1)
      go_still_tail 9, (by kernel_rfl)
      change wpList _ _ _ _ _ w1.drew
      have hK1 := hK w1 hx1 A1 c1 hr1 ho1
      have hxd := hx1.trans (ext_drew w1)
      generalize w1.drew = w2 at *
      go_upto_region 7 with (go_at_call 27; (with_reducible refine hK1.mono ?_); rintro e w3 ⟨rfl, b3, hD3, hS3⟩; have n0 : w3.cell? ⟨g, 0, none⟩ = some (.pointer (some ⟨d, 0, none⟩)) := Row.cell ((hg.ext hxd).keep hS3.k hgb) (i := 0) (by simp); have n1 : w3.cell? ⟨g, 1, none⟩ = some (.string s) := Row.cell ((hg.ext hxd).keep hS3.k hgb) (i := 1) (by simp); rw [errV_zero])
      go_still_tail 8, (by kernel_rfl)
      change wpList _ _ _ _ _ w3.drew
      have hD4 := hD3.ext (ext_drew w3)
      have hS4 := hS3.ext (ext_drew w3)
      generalize w3.drew = w4 at *
      go_wp2_with (go_at_call 43; (with_reducible refine (sync_dk s hD4 hs).mono ?_); rintro e w5 ⟨rfl, hD5⟩; rw [hsy.out] at hD5 ⊢)
      obtain ⟨b5, hD5, hS5⟩ := hD5
      exact hgg.out _ ⟨b5, hD5, Stp.after hxd (hS4.trans hS5)⟩
    · have hgg : ∀ w', DN w B d bs (app wrap64 S s.data.toList (frame b)).2 w' → G (.returned (errV (app wrap64 S s.data.toList (frame b)).1)) w' := fun w' hd => hG.out _ _ (by
        have e : lapp wrap64 S s.data.toList b = app wrap64 S s.data.toList (frame b) := by unfold lapp; rw [if_neg (by rw [hl]; exact h1), if_pos hz]
        rw [e]; exact ⟨rfl, hd⟩)
      rw [errV_ne hz] at hK hgg
      replace hgg := Lib.hid hgg
      generalize (app wrap64 S s.data.toList (frame b)).2 = S1 at *
      generalize (((app wrap64 S s.data.toList (frame b)).1 : Nat) : Int) = q at *
      replace h := Lib.hid h
      clear hG hz
      go_enter Tryz.func35, Tryz.ntmps35
      go_upto_region 4 with (go_at_call 41; (with_reducible refine hF.mono ?_); rintro e w1 ⟨A1, c1, rfl, hx1, ho1, hc1, hm1, hr1⟩; have m0 := Ext.cell hx1 l0; have m1 := Ext.cell hx1 l1)
      go_still_tail 9, (by kernel_rfl)
      change wpList _ _ _ _ _ w1.drew
      have hK1 := hK w1 hx1 A1 c1 hr1 ho1
      have hxd := hx1.trans (ext_drew w1)
      generalize w1.drew = w2 at *
      go_wp2_with (go_at_call 27; (with_reducible refine hK1.mono ?_); rintro e w3 ⟨rfl, hD3⟩)
      exact hgg.out _ (hD3.after hxd)
set_option maxRecDepth 4000 in
set_option maxHeartbeats 1600000 in
theorem lclr_any (B g d : Nat) (S : DS) (bs : List Nat) (s : ByteArray) (w : World) (hg : LogAt w g d s) (h : Dsk w B d S bs) (hs : s.size ≤ 281474976710656) :
    Calls Tryz.prog 45 #[.pointer (some ⟨g, 0, none⟩)] w fun e w' => e = .returned (errV (lclr wrap64 S s.data.toList).1) ∧ DN w B d bs (lclr wrap64 S s.data.toList).2 w' := by
  refine calls_hid fun G hG => ?_
  have l0 : w.cell? ⟨g, 0, none⟩ = some (.pointer (some ⟨d, 0, none⟩)) := Row.cell hg (i := 0) (by simp)
  have l1 : w.cell? ⟨g, 1, none⟩ = some (.string s) := Row.cell hg (i := 1) (by simp)
  have hT := trunc_dk (w := w.drew) s 0 (h.ext (ext_drew _)) hs (by decide)
  have hIs : ∀ (n : Nat) (w : World), Calls Tryz.prog 53 #[errV n, .iface 48 (.int .i64 9)] w fun e w' => e = .returned (.bool (decide (n = 9 ∧ n ≠ 0))) ∧ w = w' := fun n w => is_code n 9 w
  have hgg : ∀ w', DN w B d bs (trunc wrap64 S s.data.toList 0).2 w' → G (.returned (errV (if (trunc wrap64 S s.data.toList 0).1 = 9 then 0 else (trunc wrap64 S s.data.toList 0).1))) w' := fun w' hd => hG.out _ _ ⟨rfl, hd⟩
  generalize (trunc wrap64 S s.data.toList 0).2 = S1 at *
  generalize (trunc wrap64 S s.data.toList 0).1 = q at *
  replace hgg := Lib.hid hgg
  replace h := Lib.hid h
  have hi := hIs q
  clear hG hIs
  by_cases h9 : q = 9
  · subst h9
    rw [show decide ((9 : Nat) = 9 ∧ (9 : Nat) ≠ 0) = true from rfl] at hi
    go_enter Tryz.func45, Tryz.ntmps45
    go_upto_region 1 with fail
    go_still_tail 8, (by kernel_rfl)
    change wpList _ _ _ _ _ w.drew
    have hxd := ext_drew w
    generalize w.drew = w2 at *
    go_wp2_with (first
      | (go_at_call 67; (with_reducible refine hT.mono ?_); rintro e w3 ⟨rfl, hD3⟩; replace hD3 := Lib.hid hD3)
      | (go_at_call 53; (with_reducible refine (hi w3).mono ?_); rintro e w4 ⟨rfl, rfl⟩))
    exact hgg.out _ (hD3.out.after hxd)
  · rw [decide_eq_false (fun h => h9 h.1)] at hi
    rw [if_neg h9] at hgg
    go_enter Tryz.func45, Tryz.ntmps45
    go_upto_region 1 with fail
    go_still_tail 8, (by kernel_rfl)
    change wpList _ _ _ _ _ w.drew
    have hxd := ext_drew w
    generalize w.drew = w2 at *
    go_wp2_with (first
      | (go_at_call 67; (with_reducible refine hT.mono ?_); rintro e w3 ⟨rfl, hD3⟩; replace hD3 := Lib.hid hD3)
      | (go_at_call 53; (with_reducible refine (hi w3).mono ?_); rintro e w4 ⟨rfl, rfl⟩))
    exact hgg.out _ (hD3.out.after hxd)
end Go.Proofs.YtjnbbfhoegeppaaGreatDoor
end
section
/-
  Walks of a log: it is opened.
-/
set_option linter.unusedSimpArgs false
set_option linter.unusedVariables false
namespace Go.Proofs.YtjnbbfhoegeppaaGreatDoor
open Go.RowKit Go.Cv Go.Cv.Dk Go.Cv.Wal
/-- Every place. -/
def Any_ (_ : World) (_ : Addr) : Prop := True
/-- A slice that is empty, or lies in none of these blocks. -/
def Apt (w : World) (bs : List Nat) (v : Value) : Prop := ∀ A n c, v = .slice A n c → n = 0 ∨ ∀ x ∈ rowOf A, x ∉ bs ∧ x < w.heap.size
theorem allB_any {S : World → Addr → Prop} {w : World} {vs : List Value} {R : List (List UInt8)} (h : AllB S w vs R) : AllB Any_ w vs R := h.imp_ (fun _ _ h _ => h) fun _ _ => trivial
theorem allB_keep {w w' : World} {bs : List Nat} (hk : Keep bs w w') : ∀ {vs : List Value} {R : List (List UInt8)}, AllB Any_ w vs R → (∀ v ∈ vs, Apt w bs v) → AllB Any_ w' vs R
  | [], [], _, _ => trivial
  | v :: vs, r :: rs, h, ha => by
    refine ⟨?_, allB_keep hk h.2 fun v hv => ha v (by simp [hv])⟩
    obtain ⟨A, n, c, rfl, h2, h3, h4, h5, h6⟩ := h.1
    refine ⟨A, n, c, rfl, h2, h3, h4, ?_, fun _ _ => trivial⟩
    rcases ha _ (by simp) A n c rfl with h0 | h0
    · subst h0
      rw [List.length_eq_zero_iff.1 h2]
      exact Rd.nil_
    · exact h5.keep hk fun ad e => (h0 ad.block (by simp [rowOf, e])).1
  | [], r :: rs, h, _ => h.elim
  | v :: vs, [], h, _ => h.elim
theorem Apt.step {w w' : World} {bs cs : List Nat} {v : Value} (h : Apt w bs v) (hs : Stp bs cs w w') : Apt w' cs v := fun A n c e => by
  have := hs.k.size
  rcases h A n c e with h0 | h0
  · exact .inl h0
  · exact .inr fun x hx => ⟨hs.not (h0 x hx).2 (h0 x hx).1, by have := (h0 x hx).2; omega⟩
/-- Records, and where they lie: in none of the blocks listed. -/
structure Recs (w : World) (A : Option Addr) (c : Nat) (R : List (List UInt8)) (bs : List Nat) : Prop where
  le : R.length ≤ c
  cm : c ≤ maxLen
  ap : R = [] ∨ ∀ x ∈ rowOf A, x ∉ bs ∧ x < w.heap.size
  rd : ∃ vs, Rd w A vs ∧ AllB Any_ w vs R ∧ ∀ v ∈ vs, Apt w bs v
theorem AllB.nil_ {S : World → Addr → Prop} {w : World} {vs : List Value} (h : AllB S w vs []) : vs = [] := by
  rcases vs with _ | ⟨v, vs⟩
  · rfl
  · exact h.elim
theorem Recs.step {w w' : World} {A : Option Addr} {c : Nat} {R : List (List UInt8)} {bs cs : List Nat} (h : Recs w A c R bs) (hs : Stp bs cs w w') : Recs w' A c R cs := by
  have hsz := hs.k.size
  obtain ⟨vs, hr, ha, hp⟩ := h.rd
  refine ⟨h.le, h.cm, ?_, vs, ?_, allB_keep hs.k ha hp, fun v hv => (hp v hv).step hs⟩
  · rcases h.ap with h0 | h0
    · exact .inl h0
    · exact .inr fun x hx => ⟨hs.not (h0 x hx).2 (h0 x hx).1, by have := (h0 x hx).2; omega⟩
  · rcases h.ap with h0 | h0
    · subst h0
      rw [AllB.nil_ ha]
      exact Rd.nil_
    · exact hr.keep hs.k fun ad e => (h0 ad.block (by simp [rowOf, e])).1
theorem Recs.ext {w w' : World} {A : Option Addr} {c : Nat} {R : List (List UInt8)} {bs : List Nat} (h : Recs w A c R bs) (hx : Ext w w') : Recs w' A c R bs := h.step (Stp.of_ext hx)
theorem Recs.of_scan {S : World → Addr → Prop} {w w' : World} {A : Option Addr} {c : Nat} {vs : List Value} {R : List (List UInt8)} {bs : List Nat} (ho : w'.ownsRow w.heap.size 43 1 (.slice A R.length c) R.length vs) (hc : R.length ≤ c) (hm : c ≤ maxLen) (hr : Rd w' A vs) (ha : AllB S w' vs R)
    (hb : ∀ x ∈ bs, x < w.heap.size) (hS : ∀ ad, S w' ad → R ≠ [] → ad.block ∉ bs ∧ ad.block < w'.heap.size) : Recs w' A c R bs := by
  refine ⟨hc, hm, .inr fun x hx => ?_, vs, hr, allB_any ha, fun v hv => ?_⟩
  · have := ho.lt x (rowOf_own hx)
    exact ⟨fun hmm => by have := hb x hmm; omega, this.2⟩
  · obtain ⟨k, hk, rfl⟩ := List.getElem_of_mem hv
    have hR : R ≠ [] := fun e => by
      subst e
      rw [AllB.nil_ ha] at hk
      cases hk
    obtain ⟨A', n, c', e, _, _, _, _, h6⟩ := AllB.get ha k hk (by rw [← ha.len]; exact hk)
    rw [e]
    intro A2 n2 c2 e2
    injection e2 with e3 e4 e5
    subst e3
    refine .inr fun x hx => ?_
    rcases A' with _ | ad
    · cases hx
    · simp [rowOf] at hx
      subst hx
      exact hS ad (h6 ad rfl) hR
theorem fresh_apt {w w' : World} {bs : List Nat} {R : List (List UInt8)} (hb : ∀ x ∈ bs, x < w.heap.size) : ∀ ad, Fresh w.heap.size 5 w' ad → R ≠ [] → ad.block ∉ bs ∧ ad.block < w'.heap.size := fun ad h _ =>
  ⟨fun hm => by have := hb _ hm; have := h.1; omega, h.2.lt⟩
set_option maxHeartbeats 800000 in
theorem open_nil (s : ByteArray) (w : World) :
    Calls Tryz.prog 55 #[.pointer none, .string s] w fun e w' => e = .returned (.tuple #[.pointer none, .slice none 0 0, .iface 48 (.int .i64 1)]) ∧ w = w' := by
  go_enter Tryz.func55, Tryz.ntmps55
  go_wp2
  go_ret3
  exact ⟨rfl, rfl⟩
section
variable (B d : Nat) (S : DS) (bs : List Nat) (s : ByteArray) (w : World)
/-- The log's own row is laid. -/
theorem log_new : LogAt (w.alloc (.cells #[.pointer (some ⟨d, 0, none⟩), .string s] 115)) w.heap.size d s := Row.alloc w [.pointer (some ⟨d, 0, none⟩), .string s] 115
theorem read_bad_dk (h : Dsk w B d S bs) (hs : s.size ≤ 281474976710656) (hf : fnd S s.data.toList ≠ 0) :
    Calls Tryz.prog 18 #[.pointer (some ⟨d, 0, none⟩), .string s] w fun e w' => e = .returned (.tuple #[.slice none 0 0, errV (fnd S s.data.toList)]) ∧ w = w' := by
  obtain ⟨mb, L, h, rfl⟩ := h
  exact read_bad B d mb S L s w h hs hf
set_option maxHeartbeats 1600000 in
theorem open_none (h : Dsk w B d S bs) (hs : s.size ≤ 281474976710656) (hf : fnd S s.data.toList = 9) (hn : nameOk s.data.toList = true) :
    Calls Tryz.prog 55 #[.pointer (some ⟨d, 0, none⟩), .string s] w fun e w' => e = .returned (.tuple #[.pointer (some ⟨w.heap.size, 0, none⟩), .slice none 0 0, .nilIface]) ∧ LogAt w' w.heap.size d s ∧ Ext w w' := by
  have hx := ext_alloc w (.cells #[.pointer (some ⟨d, 0, none⟩), .string s] 115)
  have hR := read_bad_dk B d S bs s _ (h.ext hx) hs (by rw [hf]; decide)
  rw [hf] at hR
  have hl := log_new d s w
  have hIs := fun w => is_yes 9 w
  have hN := fun w => wnamed_any s w hs
  rw [hn] at hN
  generalize hW : w.alloc (.cells #[.pointer (some ⟨d, 0, none⟩), .string s] 115) = W at *
  replace hR : Calls Tryz.prog 18 #[.pointer (some ⟨d, 0, none⟩), .string s] W fun e w' => e = .returned (.tuple #[.slice none 0 0, .iface 48 (.int .i64 9)]) ∧ W = w' := hR
  clear h hf hn
  go_enter Tryz.func55, Tryz.ntmps55
  go_wp2_with (first
    | (go_at_call 18; (with_reducible refine hR.mono ?_); rintro e w2 ⟨rfl, rfl⟩)
    | (go_at_call 53; (with_reducible refine (hIs _).mono ?_); rintro e w4 ⟨rfl, rfl⟩)
    | (go_at_call 74; (with_reducible refine (hN _).mono ?_); rintro e w5 ⟨rfl, hx5⟩))
  go_ret3
  exact ⟨rfl, hl.ext hx5, hx.trans hx5⟩
set_option maxHeartbeats 1600000 in
theorem open_unnamed (h : Dsk w B d S bs) (hs : s.size ≤ 281474976710656) (hf : fnd S s.data.toList ≠ 0) (hn : nameOk s.data.toList = false) :
    Calls Tryz.prog 55 #[.pointer (some ⟨d, 0, none⟩), .string s] w fun e w' => e = .returned (.tuple #[.pointer none, .slice none 0 0, .iface 48 (.int .i64 1)]) ∧ Ext w w' := by
  have hx := ext_alloc w (.cells #[.pointer (some ⟨d, 0, none⟩), .string s] 115)
  have hR := read_bad_dk B d S bs s _ (h.ext hx) hs hf
  have hN := fun w => wnamed_any s w hs
  rw [hn] at hN
  generalize hW : w.alloc (.cells #[.pointer (some ⟨d, 0, none⟩), .string s] 115) = W at *
  by_cases h9 : fnd S s.data.toList = 9
  · have hIs := fun w => is_yes 9 w
    rw [h9] at hR
    replace hR : Calls Tryz.prog 18 #[.pointer (some ⟨d, 0, none⟩), .string s] W fun e w' => e = .returned (.tuple #[.slice none 0 0, .iface 48 (.int .i64 9)]) ∧ W = w' := hR
    clear h hf hn h9
    go_enter Tryz.func55, Tryz.ntmps55
    go_wp2_with (first
      | (go_at_call 18; (with_reducible refine hR.mono ?_); rintro e w2 ⟨rfl, rfl⟩)
      | (go_at_call 53; (with_reducible refine (hIs _).mono ?_); rintro e w4 ⟨rfl, rfl⟩)
      | (go_at_call 74; (with_reducible refine (hN _).mono ?_); rintro e w5 ⟨rfl, hx5⟩))
    go_ret3
    exact ⟨rfl, hx.trans hx5⟩
  · rw [errV_ne hf] at hR
    have hIs := fun w => is_no ((fnd S s.data.toList : Nat) : Int) 9 w (by omega)
    generalize ((fnd S s.data.toList : Nat) : Int) = q at *
    clear h hf hn h9
    go_enter Tryz.func55, Tryz.ntmps55
    go_wp2_with (first
      | (go_at_call 18; (with_reducible refine hR.mono ?_); rintro e w2 ⟨rfl, rfl⟩)
      | (go_at_call 53; (with_reducible refine (hIs _).mono ?_); rintro e w4 ⟨rfl, rfl⟩)
      | (go_at_call 74; (with_reducible refine (hN _).mono ?_); rintro e w5 ⟨rfl, hx5⟩))
    go_ret3
    exact ⟨rfl, hx.trans hx5⟩
set_option maxHeartbeats 1600000 in
theorem open_off (h : Dsk w B d S bs) (hs : s.size ≤ 281474976710656) (hf : fnd S s.data.toList ≠ 0) (h9 : fnd S s.data.toList ≠ 9) (hn : nameOk s.data.toList = true) :
    Calls Tryz.prog 55 #[.pointer (some ⟨d, 0, none⟩), .string s] w fun e w' => e = .returned (.tuple #[.pointer none, .slice none 0 0, errV (fnd S s.data.toList)]) ∧ Ext w w' := by
  have hx := ext_alloc w (.cells #[.pointer (some ⟨d, 0, none⟩), .string s] 115)
  have hR := read_bad_dk B d S bs s _ (h.ext hx) hs hf
  have hN := fun w => wnamed_any s w hs
  rw [hn] at hN
  generalize hW : w.alloc (.cells #[.pointer (some ⟨d, 0, none⟩), .string s] 115) = W at *
  rw [errV_ne hf] at hR ⊢
  have hIs := fun w => is_no ((fnd S s.data.toList : Nat) : Int) 9 w (by omega)
  generalize ((fnd S s.data.toList : Nat) : Int) = q at *
  clear h hf hn h9
  go_enter Tryz.func55, Tryz.ntmps55
  go_wp2_with (first
    | (go_at_call 18; (with_reducible refine hR.mono ?_); rintro e w2 ⟨rfl, rfl⟩)
    | (go_at_call 53; (with_reducible refine (hIs _).mono ?_); rintro e w4 ⟨rfl, rfl⟩)
    | (go_at_call 74; (with_reducible refine (hN _).mono ?_); rintro e w5 ⟨rfl, hx5⟩))
  go_ret3
  exact ⟨rfl, hx.trans hx5⟩
/-- What an opening gives of a file that is there. -/
structure Opened (R : List (List UInt8)) (S' : DS) (e : Ending) (w' : World) : Prop where
  out : ∃ g A c cs, e = .returned (.tuple #[.pointer (some ⟨g, 0, none⟩), .slice A R.length c, .nilIface]) ∧ LogAt w' g d s ∧ g ∉ cs ∧ w.heap.size ≤ g ∧ Recs w' A c R cs ∧ Dsk w' B d S' cs ∧ Stp bs cs w w'
set_option maxRecDepth 4000 in
set_option maxHeartbeats 1600000 in
theorem open_ok (R : List (List UInt8)) (u : Nat) (h : Dsk w B d S bs) (hs : s.size ≤ 281474976710656) (hf : fnd S s.data.toList = 0) (hsc : Scans (cont S s.data.toList) R u) (hlen : (cont S s.data.toList).length ≤ 35184372088832) (hz : (lcut wrap64 S s.data.toList u).1 = 0) :
    Calls Tryz.prog 55 #[.pointer (some ⟨d, 0, none⟩), .string s] w fun e w' => Opened B d bs s w R (lcut wrap64 S s.data.toList u).2 e w' := by
  refine calls_hid fun G hG => ?_
  have hx := ext_alloc w (.cells #[.pointer (some ⟨d, 0, none⟩), .string s] 115)
  have hR := read_dk (w := w.alloc (.cells #[.pointer (some ⟨d, 0, none⟩), .string s] 115)) s (h.ext hx) hs hf
  have hl := log_new d s w
  have hlt := h.lt
  have hIs := fun w => is_nil 9 w
  have hWs : (w.alloc (.cells #[.pointer (some ⟨d, 0, none⟩), .string s] 115)).heap.size = w.heap.size + 1 := by simp
  have hul := hsc.le
  generalize hW : w.alloc (.cells #[.pointer (some ⟨d, 0, none⟩), .string s] 115) = W at *
  have hT : ∀ w3, Ext w w3 → _ := fun w3 hx3 => trunc_dk (w := w3) s (u : Int) (h.ext hx3) hs (by omega)
  obtain ⟨n, hn⟩ : ∃ n, n = (cont S s.data.toList).length := ⟨_, rfl⟩
  have hnn := Lib.hid hn
  rw [← hn] at hR hlen hul
  have hRn : R.length ≤ n := by have := hsc.count; omega
  by_cases hcut : u < n
  · have e1 : lcut wrap64 S s.data.toList u = trunc wrap64 S s.data.toList u := if_pos (by rw [← hn]; exact hcut)
    rw [e1] at hz hG
    rw [hz] at hT
    have hci : (u : Int) < (n : Int) := by omega
    generalize (trunc wrap64 S s.data.toList u).2 = S1 at *
    replace hlt := Lib.hid hlt
    replace hsc := Lib.hid hsc
    replace hT := Lib.hid hT
    replace hl := Lib.hid hl
    clear h hf hz e1 hn
    go_enter Tryz.func55, Tryz.ntmps55
    go_wp2_with (first
      | (go_at_call 18; (with_reducible refine hR.mono ?_); rintro e w2 ⟨v, rfl, A2, c2, rfl, hx2, ho2, hc2, hm2, hr2⟩)
      | (go_at_call 53; (with_reducible refine (hIs _).mono ?_); rintro e w4 ⟨rfl, rfl⟩)
      | (go_at_call 51; (with_reducible refine (scan_any A2 n c2 _ _ hnn.out.symm hc2 hr2 hlen).mono ?_); rintro e w3 ⟨A3, c3, vs, R3, u3, hs3, rfl, hx3, ho3, hc3, hm3, hr3, ha3⟩; obtain ⟨rfl, rfl⟩ := Scans.unique hs3 hsc.out; have hE3 := Lib.hid (hx.trans (hx2.trans hx3)))
      | (go_at_call 67; (with_reducible refine (hT.out w3 hE3.out).mono ?_); rintro e w5 ⟨rfl, hD5⟩; rw [errV_zero]))
    go_ret3
    obtain ⟨cs, hD, hS⟩ := hD5
    have hgb : w.heap.size ∉ bs := fun hm => by have := (hlt.out _ hm).2; omega
    have hsz2 := (hx.trans hx2).size
    have hsz3 := hx3.size
    have hWl := (hl.out.ext (hx2.trans hx3))
    refine hG.out _ _ ⟨w.heap.size, A3, c3, cs, rfl, hWl.keep hS.k hgb, hS.not hWl.lt hgb, Nat.le_refl _, ?_, hD, Stp.after hE3.out hS⟩
    exact (Recs.of_scan ho3 hc3 hm3 hr3 ha3 (fun x hxx => by have := (hlt.out _ hxx).2; omega) (fresh_apt fun x hxx => by have := (hlt.out _ hxx).2; omega)).step hS
  · obtain rfl : u = n := by omega
    have e1 : lcut wrap64 S s.data.toList u = (0, S) := if_neg (by rw [← hn]; omega)
    rw [e1] at hG
    replace hlt := Lib.hid hlt
    replace hsc := Lib.hid hsc
    replace hl := Lib.hid hl
    replace h := Lib.hid h
    clear hf hz e1 hn hT
    go_enter Tryz.func55, Tryz.ntmps55
    go_wp2_with (first
      | (go_at_call 18; (with_reducible refine hR.mono ?_); rintro e w2 ⟨v, rfl, A2, c2, rfl, hx2, ho2, hc2, hm2, hr2⟩)
      | (go_at_call 53; (with_reducible refine (hIs _).mono ?_); rintro e w4 ⟨rfl, rfl⟩)
      | (go_at_call 51; (with_reducible refine (scan_any A2 u c2 _ _ hnn.out.symm hc2 hr2 hlen).mono ?_); rintro e w3 ⟨A3, c3, vs, R3, u3, hs3, rfl, hx3, ho3, hc3, hm3, hr3, ha3⟩; obtain ⟨rfl, rfl⟩ := Scans.unique hs3 hsc.out; have hE3 := Lib.hid (hx.trans (hx2.trans hx3))))
    go_ret3
    have hgb : w.heap.size ∉ bs := fun hm => by have := (hlt.out _ hm).2; omega
    have hsz2 := (hx.trans hx2).size
    have hsz3 := hx3.size
    exact hG.out _ _ ⟨w.heap.size, A3, c3, bs, rfl, hl.out.ext (hx2.trans hx3), hgb, Nat.le_refl _, Recs.of_scan ho3 hc3 hm3 hr3 ha3 (fun x hxx => by have := (hlt.out _ hxx).2; omega) (fresh_apt fun x hxx => by have := (hlt.out _ hxx).2; omega), h.out.ext hE3.out, Stp.of_ext hE3.out⟩
end
end Go.Proofs.YtjnbbfhoegeppaaGreatDoor
end
