/-
  Walks of the answer's disk: names, Cut, Read, a file laid, a file dropped.
-/
import Derived.Test.YtkgnaabmcboffaaDoorDvA
set_option linter.unusedSimpArgs false
set_option linter.unusedVariables false
namespace Go.Proofs.YtkgnaabmcboffaaDoor
open Go.RowKit Go.Cv Go.Cv.Dk
theorem ne46 (b : UInt8) : (b != 46) = decide (¬ n8 b = 46) := by
  have h : ∀ n : Fin 256, (UInt8.ofNat n.val != 46) = decide (¬ n8 (UInt8.ofNat n.val) = 46) := by decide +kernel
  have := h ⟨b.toNat, b.toNat_lt⟩
  simpa using this
set_option maxHeartbeats 1600000 in
theorem rnamed_any (s : ByteArray) (w : World) :
    Calls Tryd.prog 39 #[.string s] w fun e w' => e = .returned (.bool (nameOk s.data.toList)) ∧ w = w' := by
  refine calls_hid fun G hG => ?_
  have hz : s.size = s.data.toList.length := by rw [Array.length_toList]; rfl
  by_cases hl : s.size < 1 ∨ 32 < s.size
  · have e1 : nameOk s.data.toList = false := by
      unfold nameOk
      rw [decide_eq_false (by omega), Bool.false_and]
    rw [e1] at hG
    clear e1 hz
    generalize hn : s.size = n at *
    go_enter Tryd.func39, Tryd.ntmps39
    by_cases h1 : n < 1
    · go_wp2
      exact hG.out _ _ ⟨rfl, rfl⟩
    · go_wp2
      exact hG.out _ _ ⟨rfl, rfl⟩
  · have e0 : nameOk s.data.toList = s.data.toList.all okb := by
      unfold nameOk
      rw [decide_eq_true (by omega), Bool.true_and]
    rw [e0] at hG
    obtain ⟨n, hn⟩ : ∃ n, n = s.size := ⟨_, rfl⟩
    have hb1 : ¬ ((n : Int) < 1) := by omega
    have hb2 : ¬ (32 < (n : Int)) := by omega
    have hb3 : decide ((n : Int) < 1) = false := decide_eq_false hb1
    have hb4 : decide (32 < (n : Int)) = false := decide_eq_false hb2
    replace hz := Lib.hid (hn.trans hz)
    have hn2 := hn.symm
    replace hn := Lib.hid hn
    clear hl e0
    go_enter Tryd.func39, Tryd.ntmps39
    go_wp2
    go_loopw [3] (fun i wr => ∃ k : Nat, k ≤ n ∧ i = .int .i64 k ∧ wr = w ∧ (s.data.toList.take k).all okb = true) (fun i _ => n - (intOf i).toNat)
    case atStart => exact ⟨0, Nat.zero_le _, rfl, rfl, rfl⟩
    case round =>
      obtain ⟨k, hk, rfl, rfl, he⟩ := hrel
      by_cases hlt : k < n
      · have he := Lib.hid he
        have hk2 : k < s.size := by rw [hn2]; exact hlt
        have bad : okb s[k] = false → G (.returned (.bool false)) wr := fun hb => hG.out _ _ ⟨by
          have e : s.data.toList.all okb = false := by
            rw [List.all_eq_false]
            exact ⟨s[k], Array.mem_toList_iff.2 (Array.getElem_mem _), by rw [hb]; decide⟩
          rw [e], rfl⟩
        have good : okb s[k] = true → (s.data.toList.take (k + 1)).all okb = true := fun hb => by
          rw [List.take_succ_eq_append_getElem (by rw [← hz.out]; exact hlt), List.all_append, he.out, Bool.true_and, List.all_cons, List.all_nil, Bool.and_true]
          exact hb
        replace bad := Lib.hid bad
        replace good := Lib.hid good
        clear hG
        go_wp2
        all_goals first
          | (refine bad.out ?_; simp only [ne46, decide_eq_true_eq, decide_eq_false_iff_not] at *; unfold okb; exact decide_eq_false (by unfold n8 at *; omega))
          | (refine ⟨⟨k + 1, hlt, by simp, trivial, good.out ?_⟩, by simp [intOf]; omega⟩; simp only [ne46, decide_eq_true_eq, decide_eq_false_iff_not] at *; unfold okb; exact decide_eq_true (by unfold n8 at *; omega))
      · rw [List.take_of_length_le (by rw [← hz.out]; omega)] at he
        have he := Lib.hid he
        go_wp2
        refine hG.out _ _ ⟨?_, rfl⟩
        rw [he.out]
        rfl
set_option maxHeartbeats 800000 in
theorem rcut_any (B r : Nat) (S : DS) (T : Option Addr) (c : Nat) (L : List EF) (n : Int) (w : World) (h : RAt w B r S T c L) (hn : n ≤ 9223372036854775807) :
    Calls Tryd.prog 32 #[.pointer (some ⟨r, 0, none⟩), .int .i64 n] w fun e w' => e = .returned (.int .i64 (cutd S n).1) ∧ RAt w' B r (cutd S n).2 T c L ∧ Keep [r] w w' := by
  refine calls_hid fun G hG => ?_
  obtain ⟨q, hq, hr⟩ := h.row
  have c2 : w.cell? ⟨r, 2, none⟩ = some (.bool S.off) := hr.cell (i := 2) (by simp)
  have c3 : w.cell? ⟨r, 3, none⟩ = some (.bool (decide (0 ≤ S.bud))) := hr.cell (i := 3) (by simp)
  have c4 : w.cell? ⟨r, 4, none⟩ = some (.int .i64 q) := hr.cell (i := 4) (by simp)
  have f3 := hr.fro 3
  have f4 := hr.fro 4
  by_cases h0 : n < 0
  · have hg : G (.returned (.int .i64 1)) w := hG.out _ _ (by
      have e : cutd S n = (1, S) := by unfold cutd; rw [if_pos h0]
      rw [e]; exact ⟨rfl, h, Keep.refl _ _⟩)
    clear hG h hr hq
    go_enter Tryd.func32, Tryd.ntmps32
    go_wp2
    exact hg
  · rcases ho : S.off with _ | _
    · have e : cutd S n = (0, { S with bud := n }) := by unfold cutd; rw [if_neg h0, ho]; rfl
      rw [ho] at c2
      have r1 := hr.set 3 (.bool true)
      have d4 : (w.setCell ⟨r, 3, none⟩ (.bool true)).cell? ⟨r, 4, none⟩ = some (.int .i64 q) := r1.cell (i := 4) (by simp)
      have g4 := r1.fro 4
      have hg : G (.returned (.int .i64 0)) ((w.setCell ⟨r, 3, none⟩ (.bool true)).setCell ⟨r, 4, none⟩ (.int .i64 n)) := hG.out _ _ (by
        rw [e]
        have hk := (Keep.setCell w ⟨r, 3, none⟩ (.bool true)).same (Keep.setCell _ ⟨r, 4, none⟩ (.int .i64 n))
        refine ⟨rfl, h.of_row (S' := { S with bud := n }) (q := n) hk rfl ⟨h.ok.r0, h.ok.r1, by show -1 ≤ n; omega, hn, h.ok.u, h.ok.nm, h.ok.sy, h.ok.ris⟩ (fun _ => rfl) ?_, hk⟩
        have r2 := r1.set 4 (.int .i64 n)
        show Row _ r _ [_, _, _, .bool (decide (0 ≤ n)), _, _]
        rw [decide_eq_true (by omega : 0 ≤ n)]
        exact r2)
      clear hG h hr hq r1 e
      go_enter Tryd.func32, Tryd.ntmps32
      go_wp2
      exact hg
    · have hg : G (.returned (.int .i64 0)) w := hG.out _ _ (by
        have e : cutd S n = (0, S) := by unfold cutd; rw [if_neg h0, ho]; rfl
        rw [e]; exact ⟨rfl, h, Keep.refl _ _⟩)
      rw [ho] at c2
      clear hG h hr hq
      go_enter Tryd.func32, Tryd.ntmps32
      go_wp2
      exact hg
/-- What is told of a name. -/
theorem get_fndi {l : List PF} {x : List UInt8} : (Dk.get l x = none ∧ fndi l x = -1 ∧ ∀ z ∈ l, z.nm ≠ x) ∨ ∃ l1 f l2, l = l1 ++ f :: l2 ∧ Dk.get l x = some f ∧ f.nm = x ∧ (∀ z ∈ l1, z.nm ≠ x) ∧ fndi l x = (l1.length : Nat) := by
  rcases hq : Dk.get l x with _ | f
  · exact .inl ⟨rfl, fndi_no (get_none hq), get_none hq⟩
  · obtain ⟨l1, l2, rfl, h1, rfl⟩ := ris_split hq
    exact .inr ⟨l1, f, l2, rfl, rfl, rfl, h1, fndi_at h1 rfl⟩
theorem map_split {α β : Type} {f : α → β} {L : List α} {l1 l2 : List β} {x : β} (h : L.map f = l1 ++ x :: l2) : ∃ m1 y m2, L = m1 ++ y :: m2 ∧ m1.map f = l1 ∧ f y = x ∧ m2.map f = l2 := by
  obtain ⟨m1, m2, rfl, h1, h2⟩ := List.map_eq_append_iff.1 h
  obtain ⟨y, m3, rfl, h3, h4⟩ := List.map_eq_cons_iff.1 h2
  exact ⟨m1, y, m3, rfl, h1, h3, h4⟩
set_option maxHeartbeats 800000 in
theorem rread_any (B r : Nat) (S : DS) (T : Option Addr) (c : Nat) (L : List EF) (s : ByteArray) (w : World) (h : RAt w B r S T c L) (hL : L.length ≤ 140737488355328) :
    Calls Tryd.prog 34 #[.pointer (some ⟨r, 0, none⟩), .string s] w fun e w' => ∃ A cc, e = .returned (.tuple #[.slice A (rd S s.data.toList).2.length cc, .int .i64 (rd S s.data.toList).1]) ∧ Rd w A ((rd S s.data.toList).2.map bv) ∧ (∀ x ∈ rowOf A, x < w.heap.size) ∧ w = w' := by
  refine calls_hid fun G hG => ?_
  have hF := rfind_any B r S T c L s w h hL
  obtain ⟨q, hq, hr⟩ := h.row
  have c1 : w.cell? ⟨r, 1, none⟩ = some (.slice T L.length c) := hr.cell (i := 1) (by simp)
  have c2 : w.cell? ⟨r, 2, none⟩ = some (.bool S.off) := hr.cell (i := 2) (by simp)
  rcases ho : S.off with _ | _
  · rw [ho] at c2
    rcases get_fndi (l := S.l) (x := s.data.toList) with ⟨g1, g2, g3⟩ | ⟨l1, f, l2, gl, g1, g2, g3, g4⟩
    · have hg : G (.returned (.tuple #[.slice none 0 0, .int .i64 9])) w := hG.out _ _ (by
        have e1 : fnd S s.data.toList = 9 := by unfold fnd; rw [ho]; simp [Dk.has, g1]
        have e : rd S s.data.toList = (9, []) := by unfold rd; rw [e1]; rfl
        rw [e]; exact ⟨none, 0, rfl, Rd.nil_, by simp [rowOf], rfl⟩)
      rw [g2] at hF
      clear hG h hr hq
      go_enter Tryd.func34, Tryd.ntmps34
      go_wp2_with (go_at_call 41; (with_reducible refine hF.mono ?_); rintro e w' ⟨rfl, rfl⟩)
      exact hg
    · obtain ⟨m1, y, m2, rfl, rfl, rfl, rfl⟩ := map_split (h.ls.symm.trans gl)
      obtain ⟨t, rfl, _, _, d0, d1, d2, _⟩ := h.tab.at
      have hE := h.tab.fl y (by simp)
      have hg : G (.returned (.tuple #[.slice y.A y.f.b.length y.c, .int .i64 0])) w := hG.out _ _ (by
        have e1 : fnd S s.data.toList = 0 := by unfold fnd; rw [ho]; simp [Dk.has, g1]
        have e : rd S s.data.toList = (0, y.f.b) := by unfold rd cont; rw [e1, g1]; rfl
        rw [e]; exact ⟨y.A, y.c, rfl, hE.rd, fun x hx => (hE.ge x hx).2, rfl⟩)
      rw [g4, List.length_map] at hF
      have hk : m1.length < (m1 ++ y :: m2).length := by simp
      generalize (m1 ++ y :: m2).length = n at *
      generalize m1.length = k at *
      generalize y.f.b.length = m at *
      clear hG h hr hq hE d0 d2 gl g1 g3 g4
      go_enter Tryd.func34, Tryd.ntmps34
      go_wp2_with (go_at_call 41; (with_reducible refine hF.mono ?_); rintro e w' ⟨rfl, rfl⟩)
      exact hg
  · rw [ho] at c2
    have hg : G (.returned (.tuple #[.slice none 0 0, .int .i64 11])) w := hG.out _ _ (by
      have e1 : fnd S s.data.toList = 11 := by unfold fnd; rw [ho]; rfl
      have e : rd S s.data.toList = (11, []) := by unfold rd; rw [e1]; rfl
      rw [e]; exact ⟨none, 0, rfl, Rd.nil_, by simp [rowOf], rfl⟩)
    clear hG h hr hq
    go_enter Tryd.func34, Tryd.ntmps34
    go_wp2_with (go_at_call 41; (with_reducible refine hF.mono ?_); rintro e w' ⟨rfl, rfl⟩)
    exact hg
end Go.Proofs.YtkgnaabmcboffaaDoor
