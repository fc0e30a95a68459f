/-
  The beginning of a text: the document's answer walked, and the statement UtfCuts.
-/
import Derived.Test.YthdniboajbhhiaaDoorUtfJ
set_option linter.unusedSimpArgs false
set_option linter.unusedVariables false
namespace Go.Cv.Utf
open Go.RowKit Go.Cv.Dig
theorem encN_head (p : Nat) : ∃ b t, encN p = b :: t ∧ b / 64 ≠ 2 ∧ ∀ c ∈ t, c / 64 = 2 := by
  rcases (by omega : p < 128 ∨ (128 ≤ p ∧ p < 2048) ∨ (2048 ≤ p ∧ p < 65536) ∨ 65536 ≤ p) with g | ⟨g1, g⟩ | ⟨g1, g⟩ | g
  · exact ⟨_, _, encN1 g, by omega, by simp⟩
  · exact ⟨_, _, encN2 g1 g, by omega, by
      intro c hc
      simp only [List.mem_cons, List.not_mem_nil, or_false] at hc
      omega⟩
  · exact ⟨_, _, encN3 g1 g, by omega, by
      intro c hc
      simp only [List.mem_cons, List.not_mem_nil, or_false] at hc
      omega⟩
  · exact ⟨_, _, encN4 g, by omega, by
      intro c hc
      simp only [List.mem_cons, List.not_mem_nil, or_false] at hc
      omega⟩
theorem start_iff (s : ByteArray) (k : Nat) : Lib.runeStart (n8 (s.get! k)) = true ↔ (s.get! k).toNat / 64 ≠ 2 := by
  unfold Lib.runeStart n8
  simp only [bne_iff_ne, ne_eq]
  show ¬ (((s.get! k).toNat : Int) / 64 = 2) ↔ _
  omega
theorem enc_at (s : ByteArray) (pos k p : Nat) (hk : pos + k ≤ s.size) (h : ((nums s).drop pos).take k = encN p) (j : Nat) (hj : j < k) :
    (encN p)[j]? = some (s.get! (pos + j)).toNat := by
  rw [← h, nums_take s pos k hk, List.getElem?_map, List.getElem?_range hj]; rfl
theorem cutN_back (s : ByteArray) (pos k p : Nat) (hk : pos + k ≤ s.size) (h : ((nums s).drop pos).take k = encN p) : ∀ j, j < k → cutN s (pos + j) = pos
  | 0, hj => by
    cases pos with
    | zero => rfl
    | succ q =>
      obtain ⟨b, t, he, hb, -⟩ := encN_head p
      have h1 := enc_at s _ _ _ hk h 0 hj
      rw [he] at h1
      have h2 : b = (s.get! (q + 1 + 0)).toNat := Option.some.inj h1
      show cutN s (q + 1) = q + 1
      simp only [cutN]
      rw [if_pos ((start_iff s (q + 1)).2 (by rw [h2] at hb; exact hb))]
  | j + 1, hj => by
    obtain ⟨b, t, he, -, ht⟩ := encN_head p
    have h1 := enc_at s _ _ _ hk h (j + 1) hj
    rw [he] at h1
    have h2 : t[j]? = some (s.get! (pos + (j + 1))).toNat := h1
    have h3 := ht _ (List.mem_of_getElem? h2)
    show cutN s (pos + j + 1) = pos
    simp only [cutN]
    rw [if_neg (fun hr => ((start_iff s (pos + j + 1)).1 hr) h3)]
    exact cutN_back s pos k p hk h j (by omega)
/-- Between two characters the cut goes back to the first. -/
theorem cutN_mid (s : ByteArray) (pos m : Nat) (hp : pos < s.size) (hb : ¬ badD (Utf8.decode s pos)) (h1 : pos ≤ m) (h2 : m < pos + (Utf8.decode s pos).2) : cutN s m = pos := by
  obtain ⟨p, k, e, h3, -, h4⟩ := dec_at s pos hp hb
  rw [e] at h2
  have := cutN_back s pos k p h3 h4 (m - pos) (by omega)
  rwa [show pos + (m - pos) = m from by omega] at this
theorem dec_in (s : ByteArray) (pos : Nat) (hp : pos < s.size) (hb : ¬ badD (Utf8.decode s pos)) : pos + (Utf8.decode s pos).2 ≤ s.size := by
  obtain ⟨p, k, e, h3, -, -⟩ := dec_at s pos hp hb
  rw [e]; exact h3
theorem badFrom_step (s : ByteArray) (b pos : Nat) (hp : pos < s.size) (hb : badFrom s (b + 1) pos = -1) : ¬ badD (Utf8.decode s pos) ∧ badFrom s b (pos + (Utf8.decode s pos).2) = -1 := by
  simp only [badFrom, if_pos hp] at hb
  by_cases hbad : badD (Utf8.decode s pos)
  · rw [if_pos (show _ ∧ _ from hbad)] at hb; omega
  · rw [if_neg (show ¬ (_ ∧ _) from hbad)] at hb
    exact ⟨hbad, hb⟩
end Go.Cv.Utf
namespace Go.Proofs.YthdniboajbhhiaaDoor
open Go.RowKit Go.Cv Go.Cv.Utf Go.Cv.Dig

set_option maxHeartbeats 4000000 in
theorem refcut_all (s : ByteArray) (m : Int) (w : World) (hb : badAt s = -1) (hm : (s.size : Int) ≤ m) (hs : s.size ≤ 2000000) :
    Calls Tryd.prog 21 #[.string s, .int .i64 m] w fun e w' => e = .returned (.string s) ∧ Ext w w' := by
  go_enter Tryd.func21, Tryd.ntmps21
  go_wp2
  go_loopw [5] (fun t5 wr => ∃ (pos b : Nat), t5 = .int .i64 pos ∧ Ext w wr ∧ Hid (badFrom s b pos = -1) ∧ s.size ≤ pos + b ∧ pos ≤ s.size) (fun t5 _ => s.size - (intOf t5).toNat)
  case atStart => exact ⟨0, s.size, rfl, Ext.refl _, Lib.hid hb, by omega, by omega⟩
  case round =>
    obtain ⟨pos, b, rfl, hE, hbb, hsz, hps⟩ := hrel
    by_cases hp : pos < s.size
    · have hw1 := dec_pos s pos hp
      obtain ⟨b, rfl⟩ : ∃ b', b = b' + 1 := ⟨b - 1, by omega⟩
      obtain ⟨hg, hb2⟩ := badFrom_step s b pos hp hbb.out
      have hin := dec_in s pos hp hg
      have hat := fun w => at_any s pos w hp (by omega)
      rw [at_is s pos hp, if_neg hg] at hat
      replace hb2 := Lib.hid hb2
      have hpi : (pos : Int) < (s.size : Int) := by omega
      clear hg hbb
      generalize (Utf8.decode s pos).1 = r at *
      generalize (Utf8.decode s pos).2 = k at *
      have hk : ¬ (m < (pos : Int) + (k : Int)) := by omega
      clear hb hm
      go_wp2_with (go_at_call 30; with_reducible refine (hat _).mono ?_; rintro e w1 ⟨rfl, hx⟩)
      exact ⟨⟨pos + k, b, by go_num, hE.trans hx, hb2, by omega, by omega⟩, by simp [intOf]; omega⟩
    · have hpi : ¬ (pos : Int) < (s.size : Int) := by omega
      clear hb hm
      go_wp2
      go_ret
      exact ⟨rfl, hE⟩
set_option maxHeartbeats 4000000 in
theorem refcut_some (s : ByteArray) (m : Nat) (w : World) (hb : badAt s = -1) (hm : m < s.size) (hs : s.size ≤ 2000000) :
    Calls Tryd.prog 21 #[.string s, .int .i64 m] w fun e w' => e = .returned (.string (s.extract 0 (cutN s m))) ∧ Ext w w' := by
  go_enter Tryd.func21, Tryd.ntmps21
  go_wp2
  go_loopw [5] (fun t5 wr => ∃ (pos b : Nat), t5 = .int .i64 pos ∧ Ext w wr ∧ Hid (badFrom s b pos = -1) ∧ s.size ≤ pos + b ∧ pos ≤ m) (fun t5 _ => s.size - (intOf t5).toNat)
  case atStart => exact ⟨0, s.size, rfl, Ext.refl _, Lib.hid hb, by omega, by omega⟩
  case round =>
    obtain ⟨pos, b, rfl, hE, hbb, hsz, hps⟩ := hrel
    have hp : pos < s.size := by omega
    have hw1 := dec_pos s pos hp
    obtain ⟨b, rfl⟩ : ∃ b', b = b' + 1 := ⟨b - 1, by omega⟩
    obtain ⟨hg, hb2⟩ := badFrom_step s b pos hp hbb.out
    have hin := dec_in s pos hp hg
    have hmid := Lib.hid (cutN_mid s pos m hp hg hps)
    have hat := fun w => at_any s pos w hp (by omega)
    rw [at_is s pos hp, if_neg hg] at hat
    replace hb2 := Lib.hid hb2
    have hpi : (pos : Int) < (s.size : Int) := by omega
    clear hg hbb hb
    generalize (Utf8.decode s pos).1 = r at *
    generalize (Utf8.decode s pos).2 = k at *
    by_cases hk : (m : Int) < (pos : Int) + (k : Int)
    · have hc2 : Hid (cutN s m = pos) := Lib.hid (hmid.out (by omega))
      have hpz : 0 ≤ (pos : Int) ∧ (pos : Int) ≤ (s.size : Int) := by omega
      clear hmid hb2
      go_wp2_with (go_at_call 30; with_reducible refine (hat _).mono ?_; rintro e w1 ⟨rfl, hx⟩)
      rw [hc2.out]
      go_ret
      exact ⟨rfl, hE.trans hx⟩
    · clear hmid
      go_wp2_with (go_at_call 30; with_reducible refine (hat _).mono ?_; rintro e w1 ⟨rfl, hx⟩)
      exact ⟨⟨pos + k, b, by go_num, hE.trans hx, hb2, by omega, by omega⟩, by simp [intOf]; omega⟩

set_option maxHeartbeats 8000000 in
theorem utfcuts_any (s : ByteArray) (m : Int) (w : World) (hT : Lib.Utf8Tabs 2 3 w) (hg : w.cell? ⟨0, 0, none⟩ = some (.iface 96 (.agg #[.pointer (some ⟨4, 24, none⟩)]))) (bnd : s.size ≤ 1048576) :
    Calls Tryd.prog 7 #[.string s, .int .i64 m] w fun e w' => e = .returned (.bool true) ∧ Ext w w' := by
  have hs := shown_any w hT
  have hs2 : s.size ≤ 2000000 := by omega
  have hbad : ∀ w, Calls Tryd.prog 11 #[.string s] w fun e w' => e = .returned (.int .i64 (badAt s)) ∧ Ext w w' := fun w => refbad_any s w hs2
  by_cases h0 : m < 0
  · have hcut := fun w => cut_neg s m w h0
    clear hbad
    go_enter Tryd.func7, Tryd.ntmps7
    go_wp2_with (first
      | (go_at_call 9; with_reducible refine hs.mono ?_; rintro e w1 ⟨rfl, hx1⟩)
      | (go_at_call 17; with_reducible refine (hcut _).mono ?_; rintro e w2 ⟨rfl, rfl⟩))
    go_ret
    exact ⟨rfl, hx1⟩
  rcases badAt_two s with hb | ⟨p, hb, -⟩
  · have hgo : ∀ t : ByteArray, (∀ w, Lib.Utf8Tabs 2 3 w → Calls Tryd.prog 17 #[.string s, .int .i64 m] w fun e w' => e = .returned (.tuple #[.string t, .nilIface]) ∧ Ext w w') → (∀ w, Calls Tryd.prog 21 #[.string s, .int .i64 m] w fun e w' => e = .returned (.string t) ∧ Ext w w') → Calls Tryd.prog 7 #[.string s, .int .i64 m] w fun e w' => e = .returned (.bool true) ∧ Ext w w' := by
      intro t h1 h2
      rw [hb] at hbad
      clear hb
      go_enter Tryd.func7, Tryd.ntmps7
      go_wp2_with (first
        | (go_at_call 9; with_reducible refine hs.mono ?_; rintro e w1 ⟨rfl, hx1⟩)
        | (go_at_call 17; with_reducible refine (h1 _ (Utf8Tabs_below hT hx1)).mono ?_; rintro e w2 ⟨rfl, hx2⟩)
        | (go_at_call 11; with_reducible refine (hbad _).mono ?_; rintro e w3 ⟨rfl, hx3⟩)
        | (go_at_call 21; with_reducible refine (h2 _).mono ?_; rintro e w4 ⟨rfl, hx4⟩))
      go_ret
      exact ⟨by simp, hx1.trans (hx2.trans (hx3.trans hx4))⟩
    by_cases hm : (s.size : Int) ≤ m
    · exact hgo s (fun w h => cut_all s m w h hb h0 hm) (fun w => refcut_all s m w hb hm hs2)
    · obtain ⟨k, rfl⟩ : ∃ k : Nat, m = (k : Int) := ⟨m.toNat, by omega⟩
      exact hgo _ (fun w h => cut_some s k w h hb (by omega) (by omega)) (fun w => refcut_some s k w hb (by omega) hs2)
  · have h1 := fun w h => cut_no s p m w h hb h0
    rw [hb] at hbad
    clear hb
    go_enter Tryd.func7, Tryd.ntmps7
    go_wp2_with (first
      | (go_at_call 9; with_reducible refine hs.mono ?_; rintro e w1 ⟨rfl, hx1⟩)
      | (go_at_call 17; with_reducible refine (h1 _ (Utf8Tabs_below hT hx1)).mono ?_; rintro e w3 ⟨n, rfl, hc0, hc1, -, hx3⟩)
      | (go_at_call 11; with_reducible refine (hbad _).mono ?_; rintro e w4 ⟨rfl, hx4⟩)
      | (go_at_call 20; with_reducible refine (isat_any n p 7 _ (Ext.cell (hx1.trans (hx3.trans hx4)) hg) (Ext.cell hx4 hc0) (Ext.cell hx4 hc1)).mono ?_; rintro e w5 ⟨rfl, hx5⟩))
    go_ret
    exact ⟨rfl, hx1.trans (hx3.trans (hx4.trans hx5))⟩
theorem utfcuts_w (s : ByteArray) (m : Int) (w : World) (hT : Lib.Utf8Tabs 2 3 w ∧ w.cell? ⟨0, 0, none⟩ = some (.iface 96 (.agg #[.pointer (some ⟨4, 24, none⟩)]))) (hm : (Lit.int .i64 m).wf = true) (bnd : s.size ≤ 1048576) :
    Calls Tryd.prog 7 #[.string s, .int .i64 m] w fun e w' => e = .returned (.bool true) ∧ Ext w w' := utfcuts_any s m w hT.1 hT.2 bnd
end Go.Proofs.YthdniboajbhhiaaDoor
