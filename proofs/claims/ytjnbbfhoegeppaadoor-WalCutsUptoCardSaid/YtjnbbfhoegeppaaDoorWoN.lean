/-
  Is a text a name? The log's answer, and the document's.
-/
import Derived.Test.YtjnbbfhoegeppaaDoorDkH
import Derived.Lib.ConvBytes
set_option linter.unusedSimpArgs false
set_option linter.unusedVariables false
namespace Go.Proofs.YtjnbbfhoegeppaaDoor
open Go.RowKit Go.Cv Go.Cv.Dk
theorem okb_cases (x : UInt8) : (okb x = true ∧ ((n8 x = 46 ∧ (x != 46) = false) ∨ ((x != 46) = true ∧ (48 ≤ n8 x ∧ n8 x ≤ 57)) ∨ ((x != 46) = true ∧ 97 ≤ n8 x ∧ n8 x ≤ 122))) ∨
    (okb x = false ∧ (x != 46) = true ∧ (n8 x < 48 ∨ (57 < n8 x ∧ n8 x < 97) ∨ 122 < n8 x)) := by
  have hx : n8 x = (x.toNat : Int) := rfl
  have h46 : (x != 46) = true ↔ x.toNat ≠ 46 := by
    rw [bne_iff_ne]
    constructor
    · intro h e; exact h (UInt8.toNat_inj.1 e)
    · intro h e; exact h (by rw [e]; rfl)
  have h46' : (x != 46) = false ↔ x.toNat = 46 := by
    rw [← Bool.not_eq_true, h46]; omega
  unfold okb
  by_cases h : 97 ≤ x.toNat ∧ x.toNat ≤ 122 ∨ 48 ≤ x.toNat ∧ x.toNat ≤ 57 ∨ x.toNat = 46
  · refine .inl ⟨decide_eq_true h, ?_⟩
    rw [h46, h46', hx]
    omega
  · refine .inr ⟨decide_eq_false h, ?_⟩
    rw [h46, hx]
    omega
theorem conv_ext (w : World) (s : ByteArray) : Ext w (Lib.bytesWorld w 5 s) :=
  ⟨rfl, rfl, rfl, by rw [Lib.bytesWorld_size]; omega, fun k hk => Lib.bytesWorld_at_old w _ s k hk⟩
theorem getD_at {l : List UInt8} {i : Nat} (h : i < l.length) : l.getD i 0 = l[i] := by rw [List.getD_eq_getElem?_getD, List.getElem?_eq_getElem h]; rfl
theorem all_step {l : List UInt8} {i : Nat} (h : i < l.length) (ha : (l.take i).all okb = true) (hx : okb (l.getD i 0) = true) : (l.take (i + 1)).all okb = true := by
  rw [getD_at h] at hx
  rw [List.take_succ_eq_append_getElem h, List.all_append, ha]; simp [hx]
theorem all_not {l : List UInt8} {i : Nat} (h : i < l.length) (hx : okb (l.getD i 0) = false) : nameOk l = false := by
  rw [getD_at h] at hx
  unfold nameOk
  have : l.all okb = false := by
    rw [List.all_eq_false]
    exact ⟨l[i], List.getElem_mem h, by rw [hx]; simp⟩
  rw [this, Bool.and_false]
set_option maxRecDepth 4000 in
set_option maxHeartbeats 1600000 in
theorem wnamed_any (s : ByteArray) (w : World) (hs : s.size ≤ 281474976710656) :
    Calls Tryd.prog 21 #[.string s] w fun e w' => e = .returned (.bool (nameOk s.data.toList)) ∧ Ext w w' := by
  have hcv := fun w => Lib.run_convert_string_bytes (P := Tryd.prog) w 9 22 5 s Tryd.underlying9 Tryd.underlying22 Tryd.underlying5
  have hl : s.data.toList.length = s.size := Array.length_toList
  have hcell : ∀ j, (h : j < s.size) → (Lib.bytesWorld w 5 s).cell? ⟨w.heap.size, j, none⟩ = some (.int .u8 (n8 (s.data.toList.getD j 0))) := fun j h => by
    rw [Lib.bytesWorld_cell w _ s j h]
    rfl
  have hE := conv_ext w s
  generalize hW : Lib.bytesWorld w 5 s = W at hcell hE
  obtain ⟨n, hn⟩ : ∃ n, n = s.size := ⟨_, rfl⟩
  have HL := Lib.hid hl
  have HN := Lib.hid hn
  obtain ⟨r, hr⟩ : ∃ r, r = nameOk s.data.toList := ⟨_, rfl⟩
  rw [← hr]
  replace hr := Lib.hid hr
  clear hl hn
  replace hcell := Lib.hid hcell
  replace hE := Lib.hid hE
  go_enter Tryd.func21, Tryd.ntmps21
  go_wp2
  go_loopw [8] (fun t wr => ∃ i : Nat, i ≤ s.size ∧ t = .int .i64 i ∧ Hid ((s.data.toList.take i).all okb = true) ∧ wr = W) (fun t _ => s.size - (intOf t).toNat)
  case atStart => exact ⟨0, by omega, rfl, Lib.hid (by simp), rfl⟩
  case round =>
    obtain ⟨i, hi, rfl, hall, rfl⟩ := hrel
    by_cases h1 : i < s.size
    · have h1' : (i : Int) < (s.size : Nat) := by omega
      have hil : i < s.data.toList.length := by rw [HL.out]; exact h1
      have hc := hcell.out i h1
      have hnx := fun h => all_step hil hall.out h
      have hny := fun h => all_not hil h
      generalize s.data.toList.getD i 0 = x at *
      rcases okb_cases x with ⟨hok, hgood⟩ | ⟨hok, h46, hbad⟩
      · rcases hgood with ⟨h45, h46⟩ | ⟨h46, h47, h48⟩ | ⟨h46, h47, h48⟩
        · have hx' := Lib.hid (hnx hok)
          clear hnx hny hall hok
          go_wp2
          exact ⟨⟨i + 1, by omega, by go_num, hx', trivial⟩, by simp [intOf]; omega⟩
        · have hx' := Lib.hid (hnx hok)
          clear hnx hny hall hok
          go_wp2
          exact ⟨⟨i + 1, by omega, by go_num, hx', trivial⟩, by simp [intOf]; omega⟩
        · have hx' := Lib.hid (hnx hok)
          clear hnx hny hall hok
          go_wp2
          exact ⟨⟨i + 1, by omega, by go_num, hx', trivial⟩, by simp [intOf]; omega⟩
      · rcases hbad with h47 | ⟨h47, h48⟩ | h47
        · have hrf : Hid (r = false) := Lib.hid (hr.out.trans (hny hok))
          clear hnx hny hall hok
          go_wp2
          go_ret
          exact ⟨by rw [hrf.out]; rfl, hE.out⟩
        · have hrf : Hid (r = false) := Lib.hid (hr.out.trans (hny hok))
          clear hnx hny hall hok
          go_wp2
          go_ret
          exact ⟨by rw [hrf.out]; rfl, hE.out⟩
        · have hrf : Hid (r = false) := Lib.hid (hr.out.trans (hny hok))
          clear hnx hny hall hok
          go_wp2
          go_ret
          exact ⟨by rw [hrf.out]; rfl, hE.out⟩
    · obtain rfl : i = s.size := by omega
      have hall2 : s.data.toList.all okb = true := by
        have := hall.out
        rwa [List.take_of_length_le (by rw [HL.out]; omega)] at this
      have hrd : r = decide (1 ≤ s.size ∧ s.size ≤ 32) := by
        rw [hr.out]
        unfold nameOk
        rw [hall2, Bool.and_true, HL.out]
      clear hall hall2
      by_cases h2 : 1 ≤ s.size
      · by_cases h3 : s.size ≤ 32
        · have hrt : Hid (r = true) := Lib.hid (hrd.trans (decide_eq_true ⟨h2, h3⟩))
          have h3i : (s.size : Int) ≤ 32 := by omega
          clear hrd
          go_wp2
          go_ret
          exact ⟨by rw [hrt.out]; rfl, hE.out⟩
        · have hrt : Hid (r = false) := Lib.hid (hrd.trans (decide_eq_false fun h => h3 h.2))
          have h3' : ¬ (s.size : Int) ≤ 32 := by omega
          clear hrd
          go_wp2
          go_ret
          exact ⟨by rw [hrt.out]; rfl, hE.out⟩
      · have hrt : Hid (r = false) := Lib.hid (hrd.trans (decide_eq_false fun h => h2 h.1))
        have h3' : ¬ (1 : Int) ≤ (s.size : Int) := by omega
        clear hrd
        go_wp2
        go_ret
        exact ⟨by rw [hrt.out]; rfl, hE.out⟩
theorem get_lt_ (s : ByteArray) (i : Nat) (h : i < s.size) : s[i]'h = s.get! i := by
  show s.data[i]'h = s.data[i]!
  rw [getElem!_pos s.data i h]
theorem get_toList (s : ByteArray) (i : Nat) : s.get! i = s.data.toList.getD i 0 := by
  show s.data[i]! = _
  rw [List.getD_eq_getElem?_getD, Array.getElem?_toList, getElem!_def]
  cases s.data[i]? <;> rfl
set_option maxRecDepth 4000 in
set_option maxHeartbeats 1600000 in
theorem rnamed_any (s : ByteArray) (w : World) (hs : s.size ≤ 281474976710656) :
    Calls Tryd.prog 7 #[.string s] w fun e w' => e = .returned (.bool (nameOk s.data.toList)) ∧ Ext w w' := by
  have hl : s.data.toList.length = s.size := Array.length_toList
  have HL := Lib.hid hl
  obtain ⟨r, hr⟩ : ∃ r, r = nameOk s.data.toList := ⟨_, rfl⟩
  rw [← hr]
  replace hr := Lib.hid hr
  by_cases h2 : 1 ≤ s.size
  · by_cases h3 : s.size ≤ 32
    · clear hl
      go_enter Tryd.func7, Tryd.ntmps7
      go_wp2
      go_loopw [3] (fun t wr => ∃ i : Nat, i ≤ s.size ∧ t = .int .i64 i ∧ Hid ((s.data.toList.take i).all okb = true) ∧ Ext w wr) (fun t _ => s.size - (intOf t).toNat)
      case atStart => exact ⟨0, by omega, rfl, Lib.hid (by simp), Ext.refl _⟩
      case round =>
        obtain ⟨i, hi, rfl, hall, hE⟩ := hrel
        by_cases h1 : i < s.size
        · have h1' : (i : Int) < (s.size : Nat) := by omega
          have hil : i < s.data.toList.length := by rw [HL.out]; exact h1
          have hz1 : 0 ≤ (i : Int) ∧ (i : Int) < (s.size : Int) := by omega
          have hnx := fun h => all_step hil hall.out h
          have hny := fun h => all_not hil h
          have hg := (get_lt_ s i h1).trans (get_toList s i)
          generalize s.data.toList.getD i 0 = x at *
          rcases okb_cases x with ⟨hok, hgood⟩ | ⟨hok, h46, hbad⟩
          · have hx' := Lib.hid (hnx hok)
            clear hnx hny hall hok
            rcases hgood with ⟨h45, h46⟩ | ⟨h46, h47, h48⟩ | ⟨h46, h47, h48⟩
            · go_wp2
              exact ⟨⟨i + 1, by omega, by go_num, hx', hE⟩, by simp [intOf]; omega⟩
            · go_wp2
              exact ⟨⟨i + 1, by omega, by go_num, hx', hE⟩, by simp [intOf]; omega⟩
            · go_wp2
              exact ⟨⟨i + 1, by omega, by go_num, hx', hE⟩, by simp [intOf]; omega⟩
          · have hrf : Hid (r = false) := Lib.hid (hr.out.trans (hny hok))
            clear hnx hny hall hok
            rcases hbad with h47 | ⟨h47, h48⟩ | h47
            · go_wp2
              go_ret
              exact ⟨by rw [hrf.out]; rfl, hE⟩
            · go_wp2
              go_ret
              exact ⟨by rw [hrf.out]; rfl, hE⟩
            · go_wp2
              go_ret
              exact ⟨by rw [hrf.out]; rfl, hE⟩
        · obtain rfl : i = s.size := by omega
          have hall2 : s.data.toList.all okb = true := by
            have := hall.out
            rwa [List.take_of_length_le (by rw [HL.out]; omega)] at this
          have hrt : Hid (r = true) := Lib.hid (by
            rw [hr.out]
            unfold nameOk
            rw [hall2, Bool.and_true, HL.out]
            exact decide_eq_true ⟨h2, h3⟩)
          clear hall hall2
          go_wp2
          go_ret
          exact ⟨by rw [hrt.out]; rfl, hE⟩
    · have hrt : Hid (r = false) := Lib.hid (by
        rw [hr.out]
        unfold nameOk
        rw [HL.out, decide_eq_false (fun h => h3 h.2), Bool.false_and])
      have h3' : ¬ (s.size : Int) ≤ 32 := by omega
      clear hl
      go_enter Tryd.func7, Tryd.ntmps7
      go_wp2
      go_ret
      exact ⟨by rw [hrt.out]; rfl, Ext.refl _⟩
  · have hrt : Hid (r = false) := Lib.hid (by
      rw [hr.out]
      unfold nameOk
      rw [HL.out, decide_eq_false (fun h => h2 h.1), Bool.false_and])
    have h3' : ¬ (1 : Int) ≤ (s.size : Int) := by omega
    clear hl
    go_enter Tryd.func7, Tryd.ntmps7
    go_wp2
    go_ret
    exact ⟨by rw [hrt.out]; rfl, Ext.refl _⟩
end Go.Proofs.YtjnbbfhoegeppaaDoor
