/-
  Walks of the document's answer for layer 1: the characters of a text, and comparing.
-/
import Derived.Test.YthdniboajbhhiaaDoorUtfF
set_option linter.unusedSimpArgs false
set_option linter.unusedVariables false
namespace Go.Cv.Utf
open Go.RowKit
theorem dec_le4 (s : ByteArray) (pos : Nat) : (Utf8.decode s pos).2 ≤ 4 := by
  rw [Lib.decode_at]
  unfold Lib.decodeN
  repeat' split
  all_goals simp
/-- How two lists of numbers stand to one another. -/
def cmpL : List Nat → List Nat → Int
  | [], [] => 0
  | [], _ :: _ => -1
  | _ :: _, [] => 1
  | a :: l, b :: m => if a < b then -1 else if b < a then 1 else cmpL l m
end Go.Cv.Utf
namespace Go.Proofs.YthdniboajbhhiaaDoor
open Go.RowKit Go.Cv Go.Cv.Utf Go.Cv.Dig

/-- The characters that came back, if the text is sound. -/
def PtsRes (s : ByteArray) (w : World) (v : Value) : Prop := ∃ l, Ints w v l ∧ (badAt s = -1 → l = pts s)
set_option maxRecDepth 8000 in
set_option maxHeartbeats 8000000 in
theorem refpoints_any (s : ByteArray) (w : World) (hs : s.size ≤ 2000000) :
    Calls Tryd.prog 19 #[.string s] w fun e w' => ∃ v, e = .returned (.tuple #[v, .int .i64 (badAt s)]) ∧ PtsRes s w' v ∧ Ext w w' := by
  go_enter Tryd.func19, Tryd.ntmps19
  go_wp2
  go_loopw [4, 5] (fun v t5 wr => ∃ (pos b q : Nat) (ds : List Nat), t5 = .int .i64 pos ∧ wr.ownsRow w.heap.size 3 1 v q (ds.map iv) ∧ Ext w wr ∧ Hid (ds ++ ptsFrom s b pos = pts s) ∧ Hid (badFrom s b pos = badAt s) ∧ q ≤ pos ∧ s.size ≤ pos + b ∧ q ≤ s.size ∧ pos ≤ s.size + 4) (fun _ t5 _ => s.size + 4 - (intOf t5).toNat)
  case atStart => exact ⟨0, s.size, 0, [], rfl, World.ownsRow_nil _ _ _ 1, Ext.refl _, Lib.hid rfl, Lib.hid rfl, by omega, by omega, by omega, by omega⟩
  case round =>
    obtain ⟨pos, b, q, ds, rfl, ho, hE, hds, hb, hqp, hsz, hqs, hps⟩ := hrel
    obtain ⟨C, cc, rfl, hnc, hcm, hrd, hlen⟩ := own_form ho
    by_cases hp : pos < s.size
    · have hw1 := dec_pos s pos hp
      have hw4 := dec_le4 s pos
      have hrl := Lib.rune_le s pos
      obtain ⟨b, rfl⟩ : ∃ b', b = b' + 1 := ⟨b - 1, by omega⟩
      have hd := hds.out
      have hbb := hb.out
      simp only [ptsFrom, badFrom, if_pos hp] at hd hbb
      have hat := fun w => at_any s pos w hp (by omega)
      rw [at_is s pos hp] at hat
      have hpi : (pos : Int) < (s.size : Int) := by omega
      by_cases hbad : badD (Utf8.decode s pos)
      · rw [if_pos hbad] at hat
        have hb2 : Hid ((pos : Int) = badAt s) := Lib.hid (by rwa [if_pos (show _ ∧ _ from hbad)] at hbb)
        have hb3 : Hid (badAt s = -1 → ds = pts s) := Lib.hid fun h => by rw [← hb2.out] at h; omega
        replace hat : ∀ w, Calls Tryd.prog 30 #[.string s, .int .i64 pos] w fun e w' => e = .returned (.tuple #[.int .i64 0, .int .i64 0]) ∧ Ext w w' := hat
        clear hd hbb hbad
        go_wp2_with (go_at_call 30; with_reducible refine (hat _).mono ?_; rintro e w' ⟨rfl, hx⟩)
        rw [← hb2.out]
        go_ret2
        exact ⟨_, rfl, ⟨ds, ⟨C, q, cc, rfl, by simpa using hlen, hnc, hrd.ext hx⟩, hb3.out⟩, hE.trans hx⟩
      · rw [if_neg hbad] at hat
        have hb2 : Hid (badFrom s b (pos + (Utf8.decode s pos).2) = badAt s) := Lib.hid (by rwa [if_neg (show ¬ (_ ∧ _) from hbad)] at hbb)
        clear hbb hbad hds hb
        generalize (Utf8.decode s pos).1 = r at *
        generalize (Utf8.decode s pos).2 = k at *
        have hd2 : Hid ((ds ++ [r]) ++ ptsFrom s b (pos + k) = pts s) := Lib.hid (by rw [← hd]; simp)
        have hk0 : ¬ (k : Int) = 0 := by omega
        clear hd
        go_wp2_with (first
          | (go_at_call 30; with_reducible refine (hat _).mono ?_; rintro e w1 ⟨rfl, hx⟩)
          | (at_builtin; refine wpList_app rfl (.tmp 22) (.tmp 24) 33 3 8 rfl introw w.heap.size _ q _ rfl (own_ext (own_ext ho hx) (ext_alloc _ _)) _ 1 1 [iv r] rfl rfl (rd_new_one _ _ _) (one_map_iv [_]) (by simp [maxLen]; omega) (by omega) ((hE.trans hx).trans (ext_alloc _ _)).size ?_; intro A2 c2' w2 ho2 hc2 hm2 hr2' hE2 hg2; have hEn := hE2 w ((hE.trans hx).trans (ext_alloc _ _)) (Nat.le_refl _); clear hE2 hg2 hr2'))
        exact ⟨⟨pos + k, b, q + 1, ds ++ [r], by go_num, by rw [List.map_append]; exact ho2, hEn, hd2, hb2, by omega, by omega, by omega, by omega⟩, by simp [intOf]; omega⟩
    · have hd2 : Hid (ds = pts s) := Lib.hid (by have := hds.out; rwa [ptsFrom_end _ _ _ hp, List.append_nil] at this)
      have hb2 : Hid (badAt s = -1) := Lib.hid (by rw [← hb.out, badFrom_end _ _ _ hp])
      have hpi : ¬ (pos : Int) < (s.size : Int) := by omega
      go_wp2
      rw [hb2.out]
      go_ret2
      exact ⟨_, rfl, ⟨ds, ⟨C, q, cc, rfl, by simpa using hlen, hnc, hrd⟩, fun _ => hd2.out⟩, hE⟩
theorem refbad_any (s : ByteArray) (w : World) (hs : s.size ≤ 2000000) :
    Calls Tryd.prog 11 #[.string s] w fun e w' => e = .returned (.int .i64 (badAt s)) ∧ Ext w w' := by
  have h := refpoints_any s
  generalize badAt s = z at *
  go_enter Tryd.func11, Tryd.ntmps11
  go_wp2_with (go_at_call 19; with_reducible refine (h _ hs).mono ?_; rintro e w' ⟨v, rfl, -, hx⟩)
  go_ret
  exact ⟨rfl, hx⟩
end Go.Proofs.YthdniboajbhhiaaDoor
