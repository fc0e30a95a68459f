/-
  Walks of Scan, the program's and the reference's.
-/
import Derived.Test.YtjnbbfhoegeppaaDoorWalB
set_option linter.unusedSimpArgs false
set_option linter.unusedVariables false
namespace Go.Proofs.YtjnbbfhoegeppaaDoor
open Go.RowKit Go.Cv Go.Cv.Wal

theorem on_firstq (A : Option Addr) (n cap : Nat) (l : List UInt8) (w : World) (hn : l.length = n) (hr : Rd w A (l.map bv)) (hm : n ≤ 140737488355328) :
    Calls Tryd.prog 32 #[.int .u32 4294967295, .slice A n cap] w fun e w' => e = .returned (.int .u32 (n32 (crc 4294967295 l))) ∧ w' = w :=
  (on_first A n cap l w hn hr hm).mono fun _ _ ⟨h1, h2⟩ => ⟨h1, h2.symm⟩
theorem on_anyq (c : UInt32) (A : Option Addr) (n cap : Nat) (l : List UInt8) (w : World) (hn : l.length = n) (hr : Rd w A (l.map bv)) (hm : n ≤ 140737488355328) :
    Calls Tryd.prog 32 #[.int .u32 (n32 c), .slice A n cap] w fun e w' => e = .returned (.int .u32 (n32 (crc c l))) ∧ w' = w :=
  (on_any c A n cap l w hn hr hm).mono fun _ _ ⟨h1, h2⟩ => ⟨h1, h2.symm⟩
theorem word_num (a b c d : UInt8) (r : List UInt8) (A : Option Addr) (n cap : Nat) (w : World) (hn : 4 ≤ n) (hr : Rd w A ((a :: b :: c :: d :: r).map bv)) :
    Calls Tryd.prog 33 #[.slice A n cap] w fun e w' => e = .returned (.int .u32 (num4 a b c d : Nat)) ∧ ∃ m, w' = w.drewN m :=
  (word_any a b c d r A n cap w hn hr).mono fun e w' ⟨h1, h2⟩ => ⟨by rw [h1, ← word4_toNat]; rfl, h2⟩

/-- Records and how many bytes they take. -/
def RetScan (S : World → Addr → Prop) (w : World) (l : List UInt8) (e : Ending) (w' : World) : Prop :=
  ∃ A c vs R u, Scans l R u ∧ e = .returned (.tuple #[.slice A R.length c, .int .i64 (u : Nat)]) ∧ Ext w w' ∧
    w'.ownsRow w.heap.size 22 1 (.slice A R.length c) R.length vs ∧ R.length ≤ c ∧ c ≤ maxLen ∧ Rd w' A vs ∧ AllB S w' vs R

theorem eight {l : List UInt8} (h : 8 ≤ l.length) : ∃ a b c d e f g i r, l = a :: b :: c :: d :: e :: f :: g :: i :: r := by
  match l, h with
  | a :: b :: c :: d :: e :: f :: g :: i :: r, _ => exact ⟨a, b, c, d, e, f, g, i, r, rfl⟩

theorem RetScan.mk_ {S : World → Addr → Prop} {w wr : World} {l : List UInt8} {A4 : Option Addr} {c4 : Nat} {vs : List Value} {R : List (List UInt8)} {k : Nat} (hk : k ≤ l.length) (hx : Ext w wr)
    (ho : wr.ownsRow w.heap.size 22 1 (.slice A4 R.length c4) R.length vs) (ha : AllB S wr vs R) (he : (R.map frame).flatten = l.take k) (hs : ∀ r ∈ R, r.length ≤ 2097152) (hl : scan1 (l.drop k) = none) :
    RetScan S w l (.returned (.tuple #[.slice A4 R.length c4, .int .i64 (k : Nat)])) wr := by
  obtain ⟨A', c', h, hc, hm, hr, _⟩ := own_form ho
  injection h with h1 h2 h3
  subst h1; subst h3
  exact ⟨A4, c4, vs, R, k, ⟨hk, he, hs, hl⟩, rfl, hx, ho, hc, hm, hr, ha⟩
theorem scan1_short {l : List UInt8} (h : l.length < 8) : scan1 l = none := by
  match l, h with
  | [], _ => rfl
  | [a], _ => rfl
  | [a, b], _ => rfl
  | [a, b, c], _ => rfl
  | [a, b, c, d], _ => rfl
  | [a, b, c, d, e], _ => rfl
  | [a, b, c, d, e, f], _ => rfl
  | [a, b, c, d, e, f, g], _ => rfl

set_option maxHeartbeats 400000 in
theorem scan_any (A : Option Addr) (n cap : Nat) (l : List UInt8) (w : World) (hl : l.length = n) (hc : n ≤ cap) (hr : Rd w A (l.map bv)) (hm : n ≤ 35184372088832) :
    Calls Tryd.prog 18 #[.slice A n cap] w (RetScan (Fresh w.heap.size 5) w l) := by
  go_enter Tryd.func18, Tryd.ntmps18
  go_wp2
  go_loopw [4, 5, 6, 7, 8] (fun o u _ _ _ wr => ∃ (A4 : Option Addr) (c4 : Nat) (vs : List Value) (R : List (List UInt8)) (k : Nat), k ≤ n ∧ u = .int .i64 k ∧ o = .slice A4 R.length c4 ∧ Ext w wr ∧
    wr.ownsRow w.heap.size 22 1 (.slice A4 R.length c4) R.length vs ∧ AllB (Fresh w.heap.size 5) wr vs R ∧ (R.map frame).flatten = l.take k ∧ (∀ r ∈ R, r.length ≤ 2097152) ∧ 8 * R.length ≤ k) (fun _ u _ _ _ _ => n - (intOf u).toNat)
  case atStart => exact ⟨none, 0, [], [], 0, by omega, rfl, rfl, Ext.refl _, World.ownsRow_nil _ _ _ _, trivial, by simp, by simp, by simp⟩
  case round =>
    obtain ⟨A4, c4, vs, R, k, hk, rfl, rfl, hx, ho, ha, he, hs, h8⟩ := hrel
    by_cases hge : 8 ≤ n - k
    · obtain ⟨a, b, c, d, e, f, g, i, r, hd⟩ := eight (l := l.drop k) (by rw [List.length_drop]; omega)
      have hrl : r.length + 8 = n - k := by
        have := congrArg List.length hd
        rw [List.length_drop] at this
        simp only [List.length_cons] at this
        omega
      have hr8 : Rd wr (cutA A k cap 1) ((a :: b :: c :: d :: e :: f :: g :: i :: r).map bv) := by
        rw [← hd, List.map_drop]
        exact (hr.ext hx).cutA_ (by simp; omega)
      have HD := Lib.hid hd
      clear hd
      go_wp2_with fail
      generalize cutA A k cap 1 = A8 at hr8 ⊢
      refine (word_num a b c d (e :: f :: g :: i :: r) _ _ _ _ (by omega) hr8).mono ?_
      rintro _ _ ⟨rfl, m, rfl⟩
      replace hx := hx.drewN m
      replace hr8 := hr8.drewN m
      replace ho : (wr.drewN m).ownsRow w.heap.size 22 1 (.slice A4 R.length c4) R.length vs := ho
      replace ha : AllB (Fresh w.heap.size 5) (wr.drewN m) vs R := ha.extF ((Ext.refl wr).drewN m)
      generalize wr.drewN m = wq at *
      have hn4 := num4_lt a b c d
      have HS1 := Lib.hid (show scan1 (a :: b :: c :: d :: e :: f :: g :: i :: r) = if num4 a b c d > 2097152 ∨ num4 a b c d > r.length then none
        else if check ([a, b, c, d] ++ r.take (num4 a b c d)) = word4 e f g i then some (r.take (num4 a b c d)) else none from rfl)
      generalize num4 a b c d = sz at *
      by_cases hbig : 2097152 < sz
      · have hbig' : (2097152 : Int) < (sz : Int) := by omega
        go_wp2
        go_ret2
        exact RetScan.mk_ (by omega) hx ho ha he hs (by rw [HD.out, HS1.out, if_pos (by omega)])
      · have hbig' : ¬ (2097152 : Int) < (sz : Int) := by omega
        by_cases hfit : n - k - 8 < sz
        · have hfit' : (n : Int) - (k : Int) - 8 < (sz : Int) := by omega
          go_wp2
          go_ret2
          exact RetScan.mk_ (by omega) hx ho ha he hs (by rw [HD.out, HS1.out, if_pos (by omega)])
        · have hfit' : ¬ (n : Int) - (k : Int) - 8 < (sz : Int) := by omega
          have hr4 : Rd wq A8 (([a, b, c, d] : List UInt8).map bv) := hr8.take 4
          have hrr : Rd wq (cutA A8 8 (cap - k) 1) ((r.take sz).map bv) := by
            have := (hr8.cutA_ (l := 8) (m := cap - k) (by simp; omega)).take sz
            simpa using this
          have hre : Rd wq (cutA A8 4 (cap - k) 1) ((e :: f :: g :: i :: r).map bv) := by
            have := hr8.cutA_ (l := 4) (m := cap - k) (by simp; omega)
            simpa using this
          have hi1 : (4 : Int) ≤ ((cap - k : Nat) : Int) := by omega
          have hi2 : (4 : Int) ≤ ((n - k : Nat) : Int) := by omega
          have hrt := Lib.hid (show (r.take sz).length = sz by rw [List.length_take]; omega)
          have HW : Hid (check ([a, b, c, d] ++ r.take sz) = ~~~(crc (crc 4294967295 [a, b, c, d]) (r.take sz))) := by
            show check ([a, b, c, d] ++ r.take sz) = _
            rw [crc_append]; rfl
          rcases hck : (~~~(crc (crc 4294967295 [a, b, c, d]) (r.take sz)) != word4 e f g i) with _ | _
          · go_wp2_with fail
            rw [show 8 + sz - 8 = sz from by omega]
            go_quiet (first
              | ((go_at_call_of 32 (4294967295 : Int); with_reducible exact Calls.quiet_of_same (on_firstq _ _ _ [a, b, c, d] _ rfl (hr4.drewN _) (by omega))))
              | ((go_at_call 32; with_reducible exact Calls.quiet_of_same (on_anyq _ _ _ _ (r.take sz) _ hrt.out (hrr.drewN _) (by omega))))
              | ((go_at_call 33; with_reducible exact Calls.quiet_of (word_any e f g i r _ _ _ _ (by omega) (hre.drewN _)))))
            have HSm : Hid (scan1 (l.drop k) = some (r.take sz)) := by
              show scan1 (l.drop k) = _
              rw [HD.out, HS1.out, if_neg (by omega), if_pos]
              rw [HW.out]
              simpa using hck
            clear hck hr4 hre
            go_wp2_with (first
              | (at_builtin; refine wpList_appb0 rfl (.const (.slice none 0 0)) (.tmp 44) 22 5 rfl u8row rfl (cutA A8 8 (cap - k) 1) sz _ (r.take sz) rfl hrt.out (hrr.drewN nq) (by omega) ?_; intro A9 c9 w9 ho9 hc9 hm9 hr9 hx9; have hxq := ((Ext.refl wq).drewN nq).trans hx9)
              | (at_builtin; refine wpList_app rfl (.tmp 43) (.tmp 46) 23 22 24 rfl rowrow w.heap.size _ R.length vs rfl (own_ext (own_ext ho hxq) (ext_alloc w9 _)) _ 1 1 [.slice A9 sz c9] rfl rfl (rd_new_one w9 _ _) (one_slice _ _ _) (by unfold maxLen; omega) (by omega) (by have := (hx.trans hxq).size; simp; omega) ?_; intro A10 c10 w10 ho10 hc10 hm10 hr10 hE10 hg10))
            have hx10 : Ext w w10 := hE10 w ((hx.trans hxq).trans (ext_alloc w9 _)) (Nat.le_refl _)
            have ho' := own_ext (own_ext ho hxq) (ext_alloc w9 (.cells #[.slice A9 sz c9] 22))
            have ha' := (ha.extF hxq).extF (ext_alloc w9 (.cells #[.slice A9 sz c9] 22))
            have hk' : ∀ ad, Fresh w.heap.size 5 (w9.alloc (.cells #[.slice A9 sz c9] 22)) ad → Fresh w.heap.size 5 w10 ad ∧ some ad.block ≠ (Value.slice A4 R.length c4).ownBlock := fun ad hf =>
              have hne := own_ty_ne ho' hf.2 (by decide)
              ⟨⟨hf.1, hf.2.grown hg10 hne⟩, hne⟩
            have hkr : ∀ A xs, Rd (w9.alloc (.cells #[.slice A9 sz c9] 22)) A xs → (∀ ad, A = some ad → Fresh w.heap.size 5 (w9.alloc (.cells #[.slice A9 sz c9] 22)) ad) → Rd w10 A xs := fun A xs h hf => h.grown hg10 fun ad e => (hk' ad (hf ad e)).2
            have hf9 : ∀ ad, A9 = some ad → Fresh w.heap.size 5 (w9.alloc (.cells #[.slice A9 sz c9] 22)) ad := fun ad e => ⟨Nat.le_trans hx.size (own_fresh ho9 ad e), (own_ty ho9 ad e).ext (ext_alloc w9 _)⟩
            go_roundw
            case rel =>
              obtain ⟨t1, t2, t3⟩ := take_frame (by omega) HSm.out
              rw [hrt.out] at t1 t2 t3
              refine ⟨A10, c10, vs ++ [.slice A9 sz c9], R ++ [r.take sz], k + (8 + sz), by omega, by go_num, by rw [List.length_append]; rfl, hx10, by rw [List.length_append]; exact ho10, ?_, ?_, ?_, by simp; omega⟩
              · exact AllB.snoc ⟨A9, sz, c9, rfl, hrt.out, hc9, hm9, hkr _ _ (hr9.ext (ext_alloc w9 _)) hf9, fun ad e => (hk' ad (hf9 ad e)).1⟩ (ha'.imp_ hkr fun ad h => (hk' ad h).1)
              · rw [List.map_append, List.flatten_append, he, t1]; simp
              · intro x hx
                rcases List.mem_append.1 hx with h | h
                · exact hs x h
                · rw [List.mem_singleton.1 h, hrt.out]; exact t3
            case measure => simp [intOf]; omega
          · go_wp2_with fail
            rw [show 8 + sz - 8 = sz from by omega]
            go_quiet (first
              | ((go_at_call_of 32 (4294967295 : Int); with_reducible exact Calls.quiet_of_same (on_firstq _ _ _ [a, b, c, d] _ rfl (hr4.drewN _) (by omega))))
              | ((go_at_call 32; with_reducible exact Calls.quiet_of_same (on_anyq _ _ _ _ (r.take sz) _ hrt.out (hrr.drewN _) (by omega))))
              | ((go_at_call 33; with_reducible exact Calls.quiet_of (word_any e f g i r _ _ _ _ (by omega) (hre.drewN _)))))
            have HSm : Hid (scan1 (l.drop k) = none) := by
              show scan1 (l.drop k) = _
              rw [HD.out, HS1.out, if_neg (by omega), if_neg]
              rw [HW.out]
              simpa using hck
            clear hr4 hre
            go_wp2
            go_ret2
            exact RetScan.mk_ (by omega) (hx.drewN nq) ho (ha.extF ((Ext.refl wq).drewN nq)) he hs HSm.out
    · go_wp2
      go_ret2
      exact RetScan.mk_ (by omega) hx ho ha he hs (scan1_short (by rw [List.length_drop]; omega))
end Go.Proofs.YtjnbbfhoegeppaaDoor
