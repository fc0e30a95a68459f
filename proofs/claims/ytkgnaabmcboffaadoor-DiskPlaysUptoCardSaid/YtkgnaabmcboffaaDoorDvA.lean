/-
  Walks of the answer's disk: what is found, what is used, a step.
-/
import Derived.Test.YtkgnaabmcboffaaDoorDvM
set_option linter.unusedSimpArgs false
set_option linter.unusedVariables false
namespace Go.Proofs.YtkgnaabmcboffaaDoor
open Go.RowKit Go.Cv Go.Cv.Dk
/-- Where a name stands; -1: nowhere. -/
def fndi : List PF → List UInt8 → Int
  | [], _ => -1
  | f :: r, x => if f.nm = x then 0 else if fndi r x < 0 then -1 else fndi r x + 1
theorem fndi_at {l1 l2 : List PF} {f : PF} {x : List UInt8} (h1 : ∀ z ∈ l1, z.nm ≠ x) (hf : f.nm = x) : fndi (l1 ++ f :: l2) x = l1.length := by
  induction l1 with
  | nil => simp [fndi, hf]
  | cons y r ih =>
    have hy := h1 y (by simp)
    have h2 := ih fun z hz => h1 z (by simp [hz])
    simp only [List.cons_append, fndi, if_neg hy, h2, List.length_cons]
    rw [if_neg (by omega)]
    omega
theorem fndi_no {l : List PF} {x : List UInt8} (h : ∀ z ∈ l, z.nm ≠ x) : fndi l x = -1 := by
  induction l with
  | nil => rfl
  | cons y r ih =>
    simp only [fndi, if_neg (h y (by simp)), ih fun z hz => h z (by simp [hz])]
    rfl
theorem split_at {α : Type} {l : List α} {k : Nat} (h : k < l.length) : ∃ l1 x l2, l = l1 ++ x :: l2 ∧ l1.length = k ∧ l.take k = l1 ∧ l.take (k + 1) = l1 ++ [x] := by
  refine ⟨l.take k, l[k], l.drop (k + 1), ?_, ?_, rfl, List.take_succ_eq_append_getElem h⟩
  · rw [List.getElem_cons_drop, List.take_append_drop]
  · rw [List.length_take]; omega
theorem toArr (s : ByteArray) : (⟨s.data.toList.toArray⟩ : ByteArray) = s := rfl
set_option maxHeartbeats 800000 in
theorem rfind_any (B r : Nat) (S : DS) (T : Option Addr) (c : Nat) (L : List EF) (s : ByteArray) (w : World) (h : RAt w B r S T c L) (hL : L.length ≤ 140737488355328) :
    Calls Tryd.prog 41 #[.pointer (some ⟨r, 0, none⟩), .string s] w fun e w' => e = .returned (.int .i64 (fndi S.l s.data.toList)) ∧ w = w' := by
  refine calls_hid fun G hG => ?_
  have hls' := Lib.hid h.ls
  obtain ⟨q, hq, hr⟩ := h.row
  have c1 : w.cell? ⟨r, 1, none⟩ = some (.slice T L.length c) := hr.cell (i := 1) (by simp)
  have hT := h.tab
  clear h hq hr
  obtain ⟨n, hn⟩ : ∃ n, n = L.length := ⟨_, rfl⟩
  rw [← hn] at c1 hL
  have hn' := Lib.hid hn
  clear hn
  go_enter Tryd.func41, Tryd.ntmps41
  go_wp2
  go_loopw [5] (fun i wr => ∃ k : Nat, k ≤ n ∧ i = .int .i64 k ∧ wr = w ∧ ∀ e ∈ L.take k, e.f.nm ≠ s.data.toList) (fun i _ => n - (intOf i).toNat)
  case atStart => exact ⟨0, Nat.zero_le _, rfl, rfl, by simp⟩
  case round =>
    obtain ⟨k, hk, rfl, rfl, he⟩ := hrel
    by_cases hlt : k < n
    · obtain ⟨l1, e, l2, hL1, hl1, ht1, ht2⟩ := split_at (l := L) (k := k) (by rw [← hn'.out]; exact hlt)
      rw [hL1] at hT
      obtain ⟨t, hTt, _, _, d0, d1, d2, _⟩ := hT.at
      subst hTt
      rw [hl1] at d0
      rw [ht1] at he
      have hL1 := Lib.hid hL1
      have hl1 := Lib.hid hl1
      have ht2 := Lib.hid ht2
      have he := Lib.hid he
      clear hT d1 d2 
      by_cases hx : e.f.nm = s.data.toList
      · have hq : (e.f.nm == s.toList) = true := by rw [ByteArray.toList_eq, hx]; simp
        have hx := Lib.hid hx
        go_wp2
        refine hG.out _ _ ⟨?_, rfl⟩
        rw [hls'.out, hL1.out, List.map_append, List.map_cons, fndi_at (by intro z hz; obtain ⟨y, hy, rfl⟩ := List.mem_map.1 hz; exact he.out y hy) hx.out, List.length_map, hl1.out]
        rfl
      · have hq : (e.f.nm == s.toList) = false := by rw [ByteArray.toList_eq]; simpa using hx
        have hx := Lib.hid hx
        go_wp2
        refine ⟨⟨k + 1, hlt, by simp, trivial, fun z hz => ?_⟩, by simp [intOf]; omega⟩
        rw [ht2.out] at hz
        rcases List.mem_append.1 hz with hz | hz
        · exact he.out z hz
        · rw [List.mem_singleton.1 hz]; exact hx.out
    · rw [List.take_of_length_le (by have := hn'.out; omega)] at he
      have he := Lib.hid he
      clear hT 
      go_wp2
      refine hG.out _ _ ⟨?_, rfl⟩
      rw [hls'.out, fndi_no (by intro z hz; obtain ⟨y, hy, rfl⟩ := List.mem_map.1 hz; exact he.out y hy)]
      rfl
set_option maxHeartbeats 800000 in
theorem rused_any (B r : Nat) (S : DS) (T : Option Addr) (c : Nat) (L : List EF) (w : World) (h : RAt w B r S T c L) (hL : L.length ≤ 140737488355328) :
    Calls Tryd.prog 36 #[.pointer (some ⟨r, 0, none⟩)] w fun e w' => e = .returned (.int .i64 (used S.l : Nat)) ∧ w = w' := by
  refine calls_hid fun G hG => ?_
  have hls' := Lib.hid h.ls
  have hu : (used S.l : Int) ≤ 9223372036854775807 := by have := h.ok.u; have := h.ok.r1; omega
  rw [h.ls] at hu
  have hu := Lib.hid hu
  obtain ⟨q, hq, hr⟩ := h.row
  have c1 : w.cell? ⟨r, 1, none⟩ = some (.slice T L.length c) := hr.cell (i := 1) (by simp)
  have hT := h.tab
  clear h hq hr
  obtain ⟨n, hn⟩ : ∃ n, n = L.length := ⟨_, rfl⟩
  rw [← hn] at c1 hL
  have hn' := Lib.hid hn
  clear hn
  go_enter Tryd.func36, Tryd.ntmps36
  go_wp2
  go_loopw [3, 4] (fun y i wr => ∃ k : Nat, k ≤ n ∧ i = .int .i64 k ∧ y = .int .i64 (used ((L.take k).map EF.f) : Nat) ∧ wr = w) (fun y i _ => n - (intOf i).toNat)
  case atStart => exact ⟨0, Nat.zero_le _, rfl, rfl, rfl⟩
  case round =>
    obtain ⟨k, hk, rfl, rfl, rfl⟩ := hrel
    by_cases hlt : k < n
    · obtain ⟨l1, e, l2, hL1, hl1, ht1, ht2⟩ := split_at (l := L) (k := k) (by rw [← hn'.out]; exact hlt)
      rw [hL1] at hT
      obtain ⟨t, hTt, _, _, d0, d1, d2, _⟩ := hT.at
      subst hTt
      rw [hl1] at d1
      rw [ht1]
      have hs : used ((L.take (k + 1)).map EF.f) = used (l1.map EF.f) + e.f.b.length := by rw [ht2, List.map_append, used_app]; simp [used]
      have hb : (used (l1.map EF.f) : Int) + (e.f.b.length : Nat) ≤ 9223372036854775807 := by
        have h1 := hu.out
        rw [hL1, List.map_append, used_app, List.map_cons, used_cons] at h1
        omega
      have hs := Lib.hid hs
      generalize used (l1.map EF.f) = y at *
      generalize e.f.b.length = m at *
      clear hT d0 d2 hL1 hl1 ht1 ht2
      have hw1 : IntKind.i64.wrap ((y : Int) + (m : Int)) = ((y + m : Nat) : Int) := by rw [IntWalk.i64_in _ (by omega)]; omega
      go_wp2
      refine ⟨⟨k + 1, hlt, by simp, ?_, trivial⟩, by simp [intOf]; omega⟩
      rw [hs.out]; simp
    · rw [List.take_of_length_le (by have := hn'.out; omega), ← hls'.out]
      clear hT
      go_wp2
      exact hG.out _ _ ⟨rfl, rfl⟩
theorem RAt.of_row {w w' : World} {B r c : Nat} {S S' : DS} {T : Option Addr} {L : List EF} (h : RAt w B r S T c L) (hk : Keep [r] w w') (hS : S'.l = S.l) (hok : S'.Ok) {q : Int} (hq : 0 ≤ S'.bud → q = S'.bud)
    (hr : Row w' r 43 [.int .i64 S'.room, .slice T L.length c, .bool S'.off, .bool (decide (0 ≤ S'.bud)), .int .i64 q, .int .i64 S'.st]) : RAt w' B r S' T c L :=
  ⟨⟨q, hq, hr⟩, h.tab.keep hk (fun x hx hm => h.ap (by rw [List.mem_singleton.1 hm] at hx; exact hx)), hS ▸ h.ls, h.ap, h.ge, hok⟩
set_option maxHeartbeats 800000 in
theorem rstep_any (B r : Nat) (S : DS) (T : Option Addr) (c : Nat) (L : List EF) (w : World) (h : RAt w B r S T c L) :
    Calls Tryd.prog 40 #[.pointer (some ⟨r, 0, none⟩)] w fun e w' => e = .returned (.bool (stepd S wrap64).1) ∧ RAt w' B r (stepd S wrap64).2 T c L ∧ Keep [r] w w' := by
  refine calls_hid fun G hG => ?_
  have hok := stepd_ok h.ok wrap64
  have hb0 := h.ok.b0
  have hb1 := h.ok.b1
  obtain ⟨q, hq, hr⟩ := h.row
  have c2 : w.cell? ⟨r, 2, none⟩ = some (.bool S.off) := hr.cell (i := 2) (by simp)
  have c3 : w.cell? ⟨r, 3, none⟩ = some (.bool (decide (0 ≤ S.bud))) := hr.cell (i := 3) (by simp)
  have c4 : w.cell? ⟨r, 4, none⟩ = some (.int .i64 q) := hr.cell (i := 4) (by simp)
  have c5 : w.cell? ⟨r, 5, none⟩ = some (.int .i64 S.st) := hr.cell (i := 5) (by simp)
  have f2 := hr.fro 2
  have f4 := hr.fro 4
  have f5 := hr.fro 5
  by_cases hb : S.bud = 0
  · have e1 : stepd S wrap64 = (false, { S with off := true }) := by unfold stepd; rw [if_pos hb]
    have hq0 : q = 0 := by rw [hq (by omega), hb]
    have hd : decide (0 ≤ S.bud) = true := by rw [hb]; rfl
    rw [e1] at hok
    have hg : G (.returned (.bool false)) (w.setCell ⟨r, 2, none⟩ (.bool true)) := hG.out _ _ (by
      rw [e1]
      refine ⟨rfl, h.of_row (q := q) (Keep.setCell w ⟨r, 2, none⟩ _) rfl hok hq (hr.set 2 (.bool true)), Keep.setCell w ⟨r, 2, none⟩ _⟩)
    rw [hd] at c3
    subst hq0
    clear hG h hok hr hq e1
    go_enter Tryd.func40, Tryd.ntmps40
    go_wp2
    exact hg
  · by_cases hp : 0 ≤ S.bud
    · have e1 : stepd S wrap64 = (true, { S with bud := S.bud - 1, st := wrap64 (S.st + 1) }) := by unfold stepd; rw [if_neg hb, if_pos (by omega)]
      have hd : decide (0 ≤ S.bud) = true := decide_eq_true hp
      have hd2 : decide (0 ≤ S.bud - 1) = true := decide_eq_true (by omega)
      have hq0 : q = S.bud := hq hp
      subst hq0
      rw [e1] at hok
      have r1 := hr.set 4 (.int .i64 (S.bud - 1))
      have d5 : (w.setCell ⟨r, 4, none⟩ (.int .i64 (S.bud - 1))).cell? ⟨r, 5, none⟩ = some (.int .i64 S.st) := r1.cell (i := 5) (by simp)
      have g5 := r1.fro 5
      have hg : G (.returned (.bool true)) ((w.setCell ⟨r, 4, none⟩ (.int .i64 (S.bud - 1))).setCell ⟨r, 5, none⟩ (.int .i64 (wrap64 (S.st + 1)))) := hG.out _ _ (by
        rw [e1]
        have hk := (Keep.setCell w ⟨r, 4, none⟩ (.int .i64 (S.bud - 1))).same (Keep.setCell _ ⟨r, 5, none⟩ (.int .i64 (wrap64 (S.st + 1))))
        refine ⟨rfl, h.of_row (q := S.bud - 1) hk rfl hok (fun _ => rfl) ?_, hk⟩
        have r2 := r1.set 5 (.int .i64 (wrap64 (S.st + 1)))
        show Row _ r _ [_, _, _, .bool (decide (0 ≤ S.bud - 1)), _, _]
        rw [hd2, ← hd]
        exact r2)
      rw [hd] at c3
      have hw1 : IntKind.i64.wrap (S.bud - 1) = S.bud - 1 := IntWalk.i64_in _ (by omega)
      have hbz : (S.bud == 0) = false := by simpa using hb
      clear hG h hok hr hq e1 r1 hd hd2
      go_enter Tryd.func40, Tryd.ntmps40
      go_wp2
      exact hg
    · have e1 : stepd S wrap64 = (true, { S with st := wrap64 (S.st + 1) }) := by unfold stepd; rw [if_neg hb, if_neg (by omega)]
      have hd : decide (0 ≤ S.bud) = false := decide_eq_false hp
      rw [e1] at hok
      have hg : G (.returned (.bool true)) (w.setCell ⟨r, 5, none⟩ (.int .i64 (wrap64 (S.st + 1)))) := hG.out _ _ (by
        rw [e1]
        refine ⟨rfl, h.of_row (q := q) (Keep.setCell w ⟨r, 5, none⟩ _) rfl hok hq (hr.set 5 _), Keep.setCell w ⟨r, 5, none⟩ _⟩)
      rw [hd] at c3
      clear hG h hok hr hq e1 hd
      go_enter Tryd.func40, Tryd.ntmps40
      go_wp2
      exact hg
end Go.Proofs.YtkgnaabmcboffaaDoor
