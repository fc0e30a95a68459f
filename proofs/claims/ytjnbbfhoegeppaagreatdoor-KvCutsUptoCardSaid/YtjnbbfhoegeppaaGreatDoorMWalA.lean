/-
  Texts of the lemmas below the claim, put together: WoN WoI DkT WalA WalB.
-/
import Derived.Test.YtjnbbfhoegeppaaGreatDoorMDkF
import Derived.Lib.ConvBytes
import Derived.LaidEql
import Derived.Stop.Asserts
import Derived.Test.YtjnbbfhoegeppaaGreatDoorRows
import Derived.Test.YtjnbbfhoegeppaaGreatDoorMWalF
import Derived.Deep.QuietTactic
import Derived.BigQuiet
import Derived.StillTailTactics
import Derived.Deep.RegionWith
import Derived.Deep.RegionLaw
section
/-
  Is a text a name? The log's answer, and the document's.
-/
set_option linter.unusedSimpArgs false
set_option linter.unusedVariables false
namespace Go.Proofs.YtjnbbfhoegeppaaGreatDoor
open Go.RowKit Go.Cv Go.Cv.Dk
theorem okb_cases (x : UInt8) : (okb x = true ∧ ((n8 x = 46 ∧ (x != 46) = false) ∨ ((x != 46) = true ∧ (48 ≤ n8 x ∧ n8 x ≤ 57)) ∨ ((x != 46) = true ∧ 97 ≤ n8 x ∧ n8 x ≤ 122))) ∨
    (okb x = false ∧ (x != 46) = true ∧ (n8 x < 48 ∨ (57 < n8 x ∧ n8 x < 97) ∨ 122 < n8 x)) := by
  have hx : n8 x = (x.toNat : Int) := rfl
  have h46 : (x != 46) = true ↔ x.toNat ≠ 46 := by
    rw [bne_iff_ne]
    constructor
    · intro h e; exact h (UInt8.toNat_inj.1 e)
    · intro h e; exact h (by rw [e]; rfl)
  have h46' : (x != 46) = false ↔ x.toNat = 46 := by
    rw [← Bool.not_eq_true, h46]; omega
  unfold okb
  by_cases h : 97 ≤ x.toNat ∧ x.toNat ≤ 122 ∨ 48 ≤ x.toNat ∧ x.toNat ≤ 57 ∨ x.toNat = 46
  · refine .inl ⟨decide_eq_true h, ?_⟩
    rw [h46, h46', hx]
    omega
  · refine .inr ⟨decide_eq_false h, ?_⟩
    rw [h46, hx]
    omega
theorem conv_ext (w : World) (s : ByteArray) : Ext w (Lib.bytesWorld w 5 s) :=
  ⟨rfl, rfl, rfl, by rw [Lib.bytesWorld_size]; omega, fun k hk => Lib.bytesWorld_at_old w _ s k hk⟩
theorem getD_at {l : List UInt8} {i : Nat} (h : i < l.length) : l.getD i 0 = l[i] := by rw [List.getD_eq_getElem?_getD, List.getElem?_eq_getElem h]; rfl
theorem all_step {l : List UInt8} {i : Nat} (h : i < l.length) (ha : (l.take i).all okb = true) (hx : okb (l.getD i 0) = true) : (l.take (i + 1)).all okb = true := by
  rw [getD_at h] at hx
  rw [List.take_succ_eq_append_getElem h, List.all_append, ha]; simp [hx]
theorem all_not {l : List UInt8} {i : Nat} (h : i < l.length) (hx : okb (l.getD i 0) = false) : nameOk l = false := by
  rw [getD_at h] at hx
  unfold nameOk
  have : l.all okb = false := by
    rw [List.all_eq_false]
    exact ⟨l[i], List.getElem_mem h, by rw [hx]; simp⟩
  rw [this, Bool.and_false]
set_option maxRecDepth 4000 in
set_option maxHeartbeats 1600000 in
theorem wnamed_any (s : ByteArray) (w : World) (hs : s.size ≤ 281474976710656) :
    Calls Tryz.prog 74 #[.string s] w fun e w' => e = .returned (.bool (nameOk s.data.toList)) ∧ Ext w w' := by
  have hcv := fun w => Lib.run_convert_string_bytes (P := Tryz.prog) w 9 43 5 s Tryz.underlying9 Tryz.underlying43 Tryz.underlying5
  have hl : s.data.toList.length = s.size := Array.length_toList
  have hcell : ∀ j, (h : j < s.size) → (Lib.bytesWorld w 5 s).cell? ⟨w.heap.size, j, none⟩ = some (.int .u8 (n8 (s.data.toList.getD j 0))) := fun j h => by
    rw [Lib.bytesWorld_cell w _ s j h]
    rfl
  have hE := conv_ext w s
  generalize hW : Lib.bytesWorld w 5 s = W at hcell hE
  obtain ⟨n, hn⟩ : ∃ n, n = s.size := ⟨_, rfl⟩
  have HL := Lib.hid hl
  have HN := Lib.hid hn
  obtain ⟨r, hr⟩ : ∃ r, r = nameOk s.data.toList := ⟨_, rfl⟩
  rw [← hr]
  replace hr := Lib.hid hr
  clear hl hn
  replace hcell := Lib.hid hcell
  replace hE := Lib.hid hE
  go_enter Tryz.func74, Tryz.ntmps74
  go_wp2
  go_loopw [8] (fun t wr => ∃ i : Nat, i ≤ s.size ∧ t = .int .i64 i ∧ Hid ((s.data.toList.take i).all okb = true) ∧ wr = W) (fun t _ => s.size - (intOf t).toNat)
  case atStart => exact ⟨0, by omega, rfl, Lib.hid (by simp), rfl⟩
  case round =>
    obtain ⟨i, hi, rfl, hall, rfl⟩ := hrel
    by_cases h1 : i < s.size
    · have h1' : (i : Int) < (s.size : Nat) := by omega
      have hil : i < s.data.toList.length := by rw [HL.out]; exact h1
      have hc := hcell.out i h1
      have hnx := fun h => all_step hil hall.out h
      have hny := fun h => all_not hil h
      generalize s.data.toList.getD i 0 = x at *
      rcases okb_cases x with ⟨hok, hgood⟩ | ⟨hok, h46, hbad⟩
      · rcases hgood with ⟨h45, h46⟩ | ⟨h46, h47, h48⟩ | ⟨h46, h47, h48⟩
        · have hx' := Lib.hid (hnx hok)
          clear hnx hny hall hok
          go_wp2
          exact ⟨⟨i + 1, by omega, by go_num, hx', trivial⟩, by simp [intOf]; omega⟩
        · have hx' := Lib.hid (hnx hok)
          clear hnx hny hall hok
          go_wp2
          exact ⟨⟨i + 1, by omega, by go_num, hx', trivial⟩, by simp [intOf]; omega⟩
        · have hx' := Lib.hid (hnx hok)
          clear hnx hny hall hok
          go_wp2
          exact ⟨⟨i + 1, by omega, by go_num, hx', trivial⟩, by simp [intOf]; omega⟩
      · rcases hbad with h47 | ⟨h47, h48⟩ | h47
        · have hrf : Hid (r = false) := Lib.hid (hr.out.trans (hny hok))
          clear hnx hny hall hok
          go_wp2
          go_ret
          exact ⟨by rw [hrf.out]; rfl, hE.out⟩
        · have hrf : Hid (r = false) := Lib.hid (hr.out.trans (hny hok))
          clear hnx hny hall hok
          go_wp2
          go_ret
          exact ⟨by rw [hrf.out]; rfl, hE.out⟩
        · have hrf : Hid (r = false) := Lib.hid (hr.out.trans (hny hok))
          clear hnx hny hall hok
          go_wp2
          go_ret
          exact ⟨by rw [hrf.out]; rfl, hE.out⟩
    · obtain rfl : i = s.size := by omega
      have hall2 : s.data.toList.all okb = true := by
        have := hall.out
        rwa [List.take_of_length_le (by rw [HL.out]; omega)] at this
      have hrd : r = decide (1 ≤ s.size ∧ s.size ≤ 32) := by
        rw [hr.out]
        unfold nameOk
        rw [hall2, Bool.and_true, HL.out]
      clear hall hall2
      by_cases h2 : 1 ≤ s.size
      · by_cases h3 : s.size ≤ 32
        · have hrt : Hid (r = true) := Lib.hid (hrd.trans (decide_eq_true ⟨h2, h3⟩))
          have h3i : (s.size : Int) ≤ 32 := by omega
          clear hrd
          go_wp2
          go_ret
          exact ⟨by rw [hrt.out]; rfl, hE.out⟩
        · have hrt : Hid (r = false) := Lib.hid (hrd.trans (decide_eq_false fun h => h3 h.2))
          have h3' : ¬ (s.size : Int) ≤ 32 := by omega
          clear hrd
          go_wp2
          go_ret
          exact ⟨by rw [hrt.out]; rfl, hE.out⟩
      · have hrt : Hid (r = false) := Lib.hid (hrd.trans (decide_eq_false fun h => h2 h.1))
        have h3' : ¬ (1 : Int) ≤ (s.size : Int) := by omega
        clear hrd
        go_wp2
        go_ret
        exact ⟨by rw [hrt.out]; rfl, hE.out⟩
theorem get_lt_ (s : ByteArray) (i : Nat) (h : i < s.size) : s[i]'h = s.get! i := by
  show s.data[i]'h = s.data[i]!
  rw [getElem!_pos s.data i h]
theorem get_toList (s : ByteArray) (i : Nat) : s.get! i = s.data.toList.getD i 0 := by
  show s.data[i]! = _
  rw [List.getD_eq_getElem?_getD, Array.getElem?_toList, getElem!_def]
  cases s.data[i]? <;> rfl
end Go.Proofs.YtjnbbfhoegeppaaGreatDoor
end
section
/-
  errors.Is at an api.Code, after the guide's worked walk of errors.Is (SentryIs).
-/
set_option linter.unusedSimpArgs false
set_option linter.unusedVariables false
namespace Go.Proofs.YtjnbbfhoegeppaaGreatDoor
open Go.RowKit Go.Extern.Stop Go.Stop Go.Extern Go.Cv
theorem wi_typeOf (v : Value) (w : World) : (Extern.ReflectliteType.typeOf #[.iface 48 v]).run Tryz.prog w = .ok (.iface 142 (.agg #[.pointer (some ⟨3, 48, none⟩)])) w := by kernel_rfl
theorem wi_comparable (w : World) : ((Extern.ReflectliteType.method fun t => do Go.Extern.Rtype.noPackHeld "Comparable" t; (fun a => Value.bool a.comparable) <$> typeInfo t) #[.agg #[.pointer (some ⟨3, 48, none⟩)]]).run Tryz.prog w = .ok (.bool true) w := by kernel_rfl
theorem wi_methodComparable (v : Value) (w : World) : (Go.method 321 142 v "Comparable").run Tryz.prog w = .ok (140, v) w := by kernel_rfl
theorem wi_noIs (v : Value) (xT : TypeId) (w : World) : (Instr.typeAssert (.iface 48 v) xT 144 true).run Tryz.prog w = .ok (.tuple #[.nilIface, .bool false]) w := run_typeAssert_lacksB Tryz.underlying144 (by kernel_rfl) (by kernel_rfl) v xT w
theorem wi_noU (v : Value) (xT : TypeId) (w : World) : (Instr.typeAssert (.iface 48 v) xT 147 true).run Tryz.prog w = .ok (.tuple #[.nilIface, .bool false]) w := run_typeAssert_lacksB Tryz.underlying147 (by kernel_rfl) (by kernel_rfl) v xT w
theorem wi_noV (v : Value) (xT : TypeId) (w : World) : (Instr.typeAssert (.iface 48 v) xT 148 true).run Tryz.prog w = .ok (.tuple #[.nilIface, .bool false]) w := run_typeAssert_lacksB Tryz.underlying148 (by kernel_rfl) (by kernel_rfl) v xT w
set_option maxHeartbeats 4000000 in
theorem is_nil (c : Int) (w : World) :
    Calls Tryz.prog 53 #[.nilIface, .iface 48 (.int .i64 c)] w fun e w' => e = .returned (.bool false) ∧ w = w' := by
  have hnl := fun w => run_eql_iface_nil_left (P := Tryz.prog) (w := w) 48 (.int .i64 c) Tryz.underlying38
  go_enter Tryz.func53, Tryz.ntmps53
  go_wp2
  go_ret
  exact ⟨rfl, rfl⟩
set_option maxHeartbeats 4000000 in
theorem is_yes (c : Int) (w : World) :
    Calls Tryz.prog 53 #[.iface 48 (.int .i64 c), .iface 48 (.int .i64 c)] w fun e w' => e = .returned (.bool true) ∧ w = w' := by
  have h8 := @run_callFunc_extern Tryz.prog 72 _ Extern.ReflectliteType.typeOf Tryz.func72 (by kernel_rfl) (by kernel_rfl) (by kernel_rfl) (by kernel_rfl)
  have h32 := @run_callFunc_extern Tryz.prog 140 _ (Extern.ReflectliteType.method fun t => do Go.Extern.Rtype.noPackHeld "Comparable" t; pure (.bool (← typeInfo t).comparable)) Tryz.func140 (by kernel_rfl) (by kernel_rfl) (by kernel_rfl) (by kernel_rfl)
  have tT := wi_typeOf
  have cT := wi_comparable
  have mR := wi_methodComparable
  go_enter Tryz.func53, Tryz.ntmps53
  go_wp2
  refine wp_loop_rounds 1 ?_
  rw [rounds_succ]
  go_wp2
  go_ret
  exact ⟨rfl, rfl⟩
set_option maxHeartbeats 4000000 in
theorem is_no (a c : Int) (w : World) (hne : a ≠ c) :
    Calls Tryz.prog 53 #[.iface 48 (.int .i64 a), .iface 48 (.int .i64 c)] w fun e w' => e = .returned (.bool false) ∧ w = w' := by
  have h8 := @run_callFunc_extern Tryz.prog 72 _ Extern.ReflectliteType.typeOf Tryz.func72 (by kernel_rfl) (by kernel_rfl) (by kernel_rfl) (by kernel_rfl)
  have h32 := @run_callFunc_extern Tryz.prog 140 _ (Extern.ReflectliteType.method fun t => do Go.Extern.Rtype.noPackHeld "Comparable" t; pure (.bool (← typeInfo t).comparable)) Tryz.func140 (by kernel_rfl) (by kernel_rfl) (by kernel_rfl) (by kernel_rfl)
  have tT := wi_typeOf
  have cT := wi_comparable
  have mR := wi_methodComparable
  have nW := wi_noIs
  have uW := wi_noU
  have vW := wi_noV
  have hb : (a == c) = false := by simpa using hne
  go_enter Tryz.func53, Tryz.ntmps53
  go_wp2
  refine wp_loop_rounds 1 ?_
  rw [rounds_succ]
  go_wp2
  go_ret
  exact ⟨rfl, rfl⟩
/-- errors.Is(err, code) where err is one of api's, by its number. -/
theorem is_code (n c : Nat) (w : World) :
    Calls Tryz.prog 53 #[errV n, .iface 48 (.int .i64 (c : Nat))] w fun e w' => e = .returned (.bool (decide (n = c ∧ n ≠ 0))) ∧ w = w' := by
  by_cases h0 : n = 0
  · subst h0
    have e : decide ((0 : Nat) = c ∧ (0 : Nat) ≠ 0) = false := by simp
    rw [e]
    exact is_nil _ w
  · rw [errV_ne h0]
    by_cases h : n = c
    · subst h
      have e : decide (n = n ∧ n ≠ 0) = true := by simp [h0]
      rw [e]
      exact is_yes _ w
    · have e : decide (n = c ∧ n ≠ 0) = false := by simp [h]
      rw [e]
      exact is_no _ _ w (by omega)
end Go.Proofs.YtjnbbfhoegeppaaGreatDoor
end
section
/-
  Walks of the disk: cut short.
-/
set_option linter.unusedSimpArgs false
set_option linter.unusedVariables false
namespace Go.Proofs.YtjnbbfhoegeppaaGreatDoor
open Go.RowKit Go.Cv Go.Cv.Dk
set_option maxHeartbeats 1600000 in
theorem trunc_any (B d mb : Nat) (S : DS) (L : List GF) (s : ByteArray) (n : Int) (w : World) (h : DiskAt w B d mb S L) (hs : s.size ≤ 281474976710656) (hn : n ≤ 9223372036854775807) :
    Calls Tryz.prog 67 #[.pointer (some ⟨d, 0, none⟩), .string s, .int .i64 n] w fun e w' => e = .returned (errV (trunc wrap64 S s.data.toList n).1) ∧ Done w B d mb L (trunc wrap64 S s.data.toList n).2 w' := by
  refine calls_hid fun G hG => ?_
  by_cases hf : fnd S s.data.toList = 0
  · obtain ⟨ho, f, hq⟩ := fnd_ok hf
    obtain ⟨l1, l2, g, rfl, rfl, hnm, h1, h2⟩ := h.isome hq
    have hF := find_ok B d mb S l1 l2 g s w h hs ho h1 hnm
    have hct : cont S s.data.toList = g.f.b := by unfold cont; rw [hq]
    have hlen := (h.fl g (by simp)).len
    have e0 : w.cell? ⟨g.k, 0, none⟩ = some (.slice g.A g.f.b.length g.c) := (h.fl g (by simp)).row.cell (i := 0) (by simp)
    by_cases hbad : n < 0 ∨ n > (g.f.b.length : Nat)
    · have hg : G (.returned (errV 1)) w := hG.out _ _ (by
        have e : trunc wrap64 S s.data.toList n = (1, S) := by unfold trunc; rw [if_neg (by simp [hf]), hct, if_pos hbad]
        rw [e]; exact ⟨rfl, Done.same h⟩)
      generalize g.f.b.length = q at *
      by_cases h0 : n < 0
      · clear hG h hf ho hq hnm h1 h2 hct hbad
        go_enter Tryz.func67, Tryz.ntmps67
        go_wp2_with (go_at_call 49; (with_reducible refine hF.mono ?_); rintro e w' ⟨rfl, rfl⟩)
        exact hg
      · have h3 : (q : Int) < n := by omega
        clear hG h hf ho hq hnm h1 h2 hct hbad
        go_enter Tryz.func67, Tryz.ntmps67
        go_wp2_with (go_at_call 49; (with_reducible refine hF.mono ?_); rintro e w' ⟨rfl, rfl⟩)
        exact hg
    · obtain ⟨z, rfl⟩ : ∃ z : Nat, n = z := ⟨n.toNat, by omega⟩
      have hzq : z ≤ g.f.b.length := by omega
      have hT := step_any B d mb S (l1 ++ g :: l2) w h
      have hcut : trunc wrap64 S s.data.toList z = if (stepd S wrap64).1 then (0, { (stepd S wrap64).2 with l := Dk.upd S.l s.data.toList fun f => { f with b := f.b.take (z : Int).toNat, sy := (z : Int).toNat } }) else (11, (stepd S wrap64).2) := by
        unfold trunc; rw [if_neg (by simp [hf]), hct, if_neg hbad]
      have hzt : ((z : Int)).toNat = z := by omega
      rw [hzt] at hcut
      by_cases hb : S.bud = 0
      · rw [stepd_zero hb] at hT hcut
        have hg : ∀ w', Done w B d mb (l1 ++ g :: l2) (stepd S wrap64).2 w' → G (.returned (errV 11)) w' := fun w' hd => hG.out _ _ (by rw [hcut]; exact ⟨rfl, hd⟩)
        replace hg := Lib.hid hg
        generalize (stepd S wrap64).2 = S1 at *
        have hzn : (z : Int) ≤ (g.f.b.length : Nat) := by omega
        generalize g.f.b.length = q at *
        clear hG h hf ho hq hnm h1 h2 hb hct hbad hcut
        go_enter Tryz.func67, Tryz.ntmps67
        go_wp2_with (first
          | (go_at_call 49; (with_reducible refine hF.mono ?_); rintro e w' ⟨rfl, rfl⟩)
          | (go_at_call 63; (with_reducible refine hT.mono ?_); rintro e w1 ⟨rfl, hD1, hk1⟩))
        exact hg.out _ (Done.d hD1 hk1)
      · rw [stepd_one hb] at hT hcut
        have hup := upd_L (g' := ⟨{ g.f with b := g.f.b.take z, sy := z }, g.k, g.A, z⟩) (u := fun f => { f with b := f.b.take z, sy := z }) h.ls h1 h2 hnm rfl
        have hg : ∀ w', Done w B d mb (l1 ++ g :: l2) { (stepd S wrap64).2 with l := (l1 ++ ⟨{ g.f with b := g.f.b.take z, sy := z }, g.k, g.A, z⟩ :: l2).map GF.f } w' → G (.returned (errV 0)) w' := fun w' hd => hG.out _ _ (by rw [hcut, hup]; exact ⟨rfl, hd⟩)
        replace hg := Lib.hid hg
        generalize (stepd S wrap64).2 = S1 at *
        have hzn : (z : Int) ≤ (g.f.b.length : Nat) := by omega
        have hgm : g ∈ l1 ++ g :: l2 := by simp
        have hcz : z ≤ g.c := by have := (h.fl g hgm).nc; omega
        have hzi : (z : Int) ≤ (g.c : Nat) := by omega
        obtain ⟨q, hq2⟩ : ∃ q, q = g.f.b.length := ⟨_, rfl⟩
        rw [← hq2] at e0 hzn hlen
        have hqh := Lib.hid hq2
        clear hG h hf ho hq hnm h1 h2 hb hct hbad hcut hup hq2
        go_enter Tryz.func67, Tryz.ntmps67
        go_wp2_with (first
          | (go_at_call 49; (with_reducible refine hF.mono ?_); rintro e w' ⟨rfl, rfl⟩)
          | (go_at_call 63; (with_reducible refine hT.mono ?_); rintro e w1 ⟨rfl, hD1, hk1⟩; have hFl := Lib.hid (hD1.fl g hgm); have e1 : w1.cell? ⟨g.k, 0, none⟩ = some (.slice g.A q g.c) := (by rw [hqh.out]; exact hFl.out.row.cell (i := 0) (by simp)); have f1 := hFl.out.row.fro 0; have f2 := (hFl.out.row.set 0 (.slice g.A z z)).fro 1; have e2 : (w1.setCell ⟨g.k, 0, none⟩ (.slice g.A z z)).cell? ⟨g.k, 1, none⟩ = some (.int .i64 (g.f.sy : Nat)) := (hFl.out.row.set 0 (.slice g.A z z)).cell (i := 1) (by simp); replace hD1 := Lib.hid hD1))
        have hc := hD1.out.cutAt hzq rfl
        exact hg.out _ ⟨_, hc.1, (stp_d hk1).trans ⟨hc.2.2.mono (fun x hx => by
          rw [List.mem_singleton.1 hx]
          simp only [foot, List.mem_cons, List.mem_flatMap]
          exact .inr (.inr ⟨g, by simp, by simp [ownB]⟩)), fun x hx => .inl (by rw [hc.2.1] at hx; exact hx)⟩, by simp⟩
  · have hF := find_bad B d mb S L s w h hs hf
    have hg : G (.returned (errV (fnd S s.data.toList))) w := hG.out _ _ (by
      have e : trunc wrap64 S s.data.toList n = (fnd S s.data.toList, S) := by unfold trunc; rw [if_pos hf]
      rw [e]; exact ⟨rfl, Done.same h⟩)
    rw [errV_ne hf] at hg
    clear hG h hf
    generalize ((fnd S s.data.toList : Nat) : Int) = q at *
    go_enter Tryz.func67, Tryz.ntmps67
    go_wp2_with (go_at_call 49; (with_reducible refine hF.mono ?_); rintro e w' ⟨rfl, rfl⟩)
    exact hg
theorem trunc_dk {B d : Nat} {S : DS} {bs : List Nat} (s : ByteArray) (n : Int) {w : World} (h : Dsk w B d S bs) (hs : s.size ≤ 281474976710656) (hn : n ≤ 9223372036854775807) :
    Calls Tryz.prog 67 #[.pointer (some ⟨d, 0, none⟩), .string s, .int .i64 n] w fun e w' => e = .returned (errV (trunc wrap64 S s.data.toList n).1) ∧ DN w B d bs (trunc wrap64 S s.data.toList n).2 w' := by
  obtain ⟨mb, L, h, rfl⟩ := h
  exact (trunc_any B d mb S L s n w h hs hn).mono fun e w' x => ⟨x.1, x.2.dn⟩
end Go.Proofs.YtjnbbfhoegeppaaGreatDoor
end
section
/-
  Walks of the leaves of the layer wal: checks and numbers.
-/
set_option linter.unusedSimpArgs false
set_option linter.unusedVariables false
namespace Go.Proofs.YtjnbbfhoegeppaaGreatDoor
open Go.RowKit Go.Cv Go.Cv.Wal

theorem u8info : (Tryz.prog.info? 5).map (fun i => (i.zero, i.size, i.bytes)) = some (some (.int .u8 0), 1, 1) := by kernel_rfl
theorem rowinfo : (Tryz.prog.info? 43).map (fun i => (i.zero, i.size, i.bytes)) = some (some (.slice none 0 0), 1, 24) := by kernel_rfl

set_option maxHeartbeats 400000 in
theorem on_any (c : UInt32) (A : Option Addr) (n cap : Nat) (l : List UInt8) (w : World) (hn : l.length = n) (hr : Rd w A (l.map bv)) (hm : n ≤ 140737488355328) :
    Calls Tryz.prog 66 #[.int .u32 (n32 c), .slice A n cap] w fun e w' => e = .returned (.int .u32 (n32 (crc c l))) ∧ w = w' := by
  subst hn
  go_enter Tryz.func66, Tryz.ntmps66
  go_wp2
  go_loop [0, 6, 9, 17] (fun t0 _ i _ => ∃ k : Nat, k ≤ l.length ∧ i = .int .i64 k ∧ t0 = .int .u32 (n32 (crc c (l.take k)))) (fun _ _ i _ => l.length - (intOf i).toNat)
  case atStart => exact ⟨0, Nat.zero_le _, rfl, rfl⟩
  case round =>
    obtain ⟨k, hk, rfl, rfl⟩ := hrel
    by_cases hlt : k < l.length
    · obtain ⟨ad, rfl, hc⟩ := hr.at_ (k := k) (by simpa using hlt)
      rw [List.getElem_map] at hc
      have HS : Hid (crc c (l.take (k + 1)) = crcByte (crc c (l.take k)) l[k]) := by
        show crc c (l.take (k + 1)) = _
        rw [List.take_succ_eq_append_getElem hlt, crc_snoc]
      generalize crc c (l.take k) = c0 at *
      go_wp2
      go_loop [0, 17] (fun t0 j => ∃ m : Nat, m ≤ 8 ∧ j = .int .i64 m ∧ t0 = .int .u32 (n32 (crcBits m (c0 ^^^ l[k].toUInt32)))) (fun _ j => 8 - (intOf j).toNat)
      case atStart => exact ⟨0, by omega, rfl, rfl⟩
      case round =>
        obtain ⟨m, hm8, rfl, rfl⟩ := hrel
        by_cases hlt8 : m < 8
        · go_wp2
          go_round
          case rel => exact ⟨m + 1, by omega, by go_num, rfl⟩
          case measure => simp [intOf]; omega
        · obtain rfl : m = 8 := by omega
          go_wp2
          go_round
          case rel => exact ⟨k + 1, by omega, by go_num, by rw [HS.out]; rfl⟩
          case measure => simp [intOf]; omega
    · go_wp2
      go_ret
      exact ⟨by rw [List.take_of_length_le (by omega)]; rfl, rfl⟩

set_option maxHeartbeats 400000 in
theorem on_first (A : Option Addr) (n cap : Nat) (l : List UInt8) (w : World) (hn : l.length = n) (hr : Rd w A (l.map bv)) (hm : n ≤ 140737488355328) :
    Calls Tryz.prog 66 #[.int .u32 4294967295, .slice A n cap] w fun e w' => e = .returned (.int .u32 (n32 (crc 4294967295 l))) ∧ w = w' :=
  on_any 4294967295 A n cap l w hn hr hm
set_option maxHeartbeats 400000 in
theorem rcheck_any (A : Option Addr) (n cap : Nat) (l : List UInt8) (w : World) (hn : l.length = n) (hr : Rd w A (l.map bv)) (hm : n ≤ 140737488355328) :
    Calls Tryz.prog 48 #[.slice A n cap] w fun e w' => e = .returned (.int .u32 (n32 (check l))) ∧ w = w' := by
  subst hn
  go_enter Tryz.func48, Tryz.ntmps48
  go_wp2
  go_loop [3, 4, 5] (fun t0 i _ => ∃ k : Nat, k ≤ l.length ∧ i = .int .i64 k ∧ t0 = .int .u32 (n32 (crc 4294967295 (l.take k)))) (fun _ i _ => l.length - (intOf i).toNat)
  case atStart => exact ⟨0, Nat.zero_le _, rfl, rfl⟩
  case round =>
    obtain ⟨k, hk, rfl, rfl⟩ := hrel
    by_cases hlt : k < l.length
    · obtain ⟨ad, rfl, hc⟩ := hr.at_ (k := k) (by simpa using hlt)
      rw [List.getElem_map] at hc
      have HS : Hid (crc 4294967295 (l.take (k + 1)) = crcByte (crc 4294967295 (l.take k)) l[k]) := by
        show crc 4294967295 (l.take (k + 1)) = _
        rw [List.take_succ_eq_append_getElem hlt, crc_snoc]
      generalize crc 4294967295 (l.take k) = c0 at *
      go_wp2
      go_loop [3, 5] (fun t0 j => ∃ m : Nat, m ≤ 8 ∧ j = .int .i64 m ∧ t0 = .int .u32 (n32 (crcBits m (c0 ^^^ l[k].toUInt32)))) (fun _ j => 8 - (intOf j).toNat)
      case atStart => exact ⟨0, by omega, rfl, rfl⟩
      case round =>
        obtain ⟨m, hm8, rfl, rfl⟩ := hrel
        by_cases hlt8 : m < 8
        · have HB : Hid (crcBits (m + 1) (c0 ^^^ l[k].toUInt32) = crcBit' (crcBits m (c0 ^^^ l[k].toUInt32))) := by
            show crcBits (m + 1) (c0 ^^^ l[k].toUInt32) = _
            rw [crcBit_eq]; rfl
          generalize crcBits m (c0 ^^^ l[k].toUInt32) = c1 at *
          rcases hodd : (c1 % 2 == 1) with _ | _
          · have HT : Hid (crcBit' c1 = c1 / 2) := by show crcBit' c1 = _; unfold crcBit'; rw [hodd]; rfl
            go_wp2
            go_round
            case rel => exact ⟨m + 1, by omega, by go_num, by rw [HB.out, HT.out]⟩
            case measure => simp [intOf]; omega
          · have HT : Hid (crcBit' c1 = c1 / 2 ^^^ 3988292384) := by show crcBit' c1 = _; unfold crcBit'; rw [hodd]; rfl
            go_wp2
            go_round
            case rel => exact ⟨m + 1, by omega, by go_num, by rw [HB.out, HT.out]⟩
            case measure => simp [intOf]; omega
        · obtain rfl : m = 8 := by omega
          go_wp2
          go_round
          case rel => exact ⟨k + 1, by omega, by go_num, by rw [HS.out]; rfl⟩
          case measure => simp [intOf]; omega
    · have HX : Hid (check l = crc 4294967295 (l.take k) ^^^ 4294967295) := by
        show check l = _
        rw [List.take_of_length_le (by omega)]
        show ~~~(crc 4294967295 l) = _
        exact not32 _
      go_wp2
      go_ret
      exact ⟨by rw [HX.out]; rfl, rfl⟩

/-- The call made a row of bytes. -/
def RetBytes (w : World) (n : Nat) (l : List UInt8) (e : Ending) (w' : World) : Prop :=
  ∃ A c, e = .returned (.slice A n c) ∧ Ext w w' ∧ w'.ownsRow w.heap.size 5 1 (.slice A n c) n (l.map bv) ∧ n ≤ c ∧ c ≤ maxLen ∧ Rd w' A (l.map bv)
theorem RetBytes.mk_ {w w' : World} {n : Nat} {l : List UInt8} {A : Option Addr} {c : Nat} (hx : Ext w w') (ho : w'.ownsRow w.heap.size 5 1 (.slice A n c) n (l.map bv)) : RetBytes w n l (.returned (.slice A n c)) w' := by
  obtain ⟨A', c', h, hc, hm, hr, _⟩ := own_form ho
  injection h with h1 h2 h3
  subst h1; subst h3
  exact ⟨A, c, rfl, hx, ho, hc, hm, hr⟩
theorem u8row : RowT Tryz.prog 43 5 1 := RowT.of Tryz.underlying43 u8info rfl
theorem rowrow : RowT Tryz.prog 97 43 24 := RowT.of Tryz.underlying97 rowinfo rfl

set_option maxHeartbeats 400000 in
theorem bytes_any (v : UInt32) (w : World) : Calls Tryz.prog 65 #[.int .u32 (n32 v)] w (RetBytes w 4 (le4 v)) := by
  go_enter Tryz.func65, Tryz.ntmps65
  go_wp2
  go_ret
  refine RetBytes.mk_ (ext_alloc _ _) ⟨by simp [le4], .inr ⟨w.heap.size, 4, _, rfl, Nat.le_refl _, heap_alloc_new w _, by decide, by simp [maxLen], rfl, rfl⟩⟩

set_option maxHeartbeats 400000 in
theorem four_any (v : UInt32) (w : World) : Calls Tryz.prog 47 #[.int .u32 (n32 v)] w (RetBytes w 4 (le4 v)) := by
  go_enter Tryz.func47, Tryz.ntmps47
  go_wp2
  go_ret
  refine RetBytes.mk_ (ext_alloc _ _) ⟨by simp [le4], .inr ⟨w.heap.size, 4, _, rfl, Nat.le_refl _, heap_alloc_new w _, by decide, by simp [maxLen], rfl, ?_⟩⟩
  rw [← le4_eq]; rfl

set_option maxHeartbeats 400000 in
theorem word_any (a b c d : UInt8) (r : List UInt8) (A : Option Addr) (n cap : Nat) (w : World) (hn : 4 ≤ n) (hr : Rd w A ((a :: b :: c :: d :: r).map bv)) :
    Calls Tryz.prog 68 #[.slice A n cap] w fun e w' => e = .returned (.int .u32 (n32 (word4 a b c d))) ∧ ∃ m, w' = w.drewN m := by
  obtain ⟨ad, rfl, h0⟩ := hr 0 (bv a) rfl
  obtain ⟨_, h, h1⟩ := hr 1 (bv b) rfl; injection h with h; subst h
  obtain ⟨_, h, h2⟩ := hr 2 (bv c) rfl; injection h with h; subst h
  obtain ⟨_, h, h3⟩ := hr 3 (bv d) rfl; injection h with h; subst h
  have hi0 : 0 < n := by omega
  have h0' : w.cell? ad = some (bv a) := h0
  have h1' : w.cell? ⟨ad.block, ad.off + 1, none⟩ = some (bv b) := h1
  have h2' : w.cell? ⟨ad.block, ad.off + 2, none⟩ = some (bv c) := h2
  have h3' : w.cell? ⟨ad.block, ad.off + 3, none⟩ = some (bv d) := h3
  clear h0 h1 h2 h3
  have hi1 : (1 : Int) < (n : Int) := by omega
  have hi2 : (2 : Int) < (n : Int) := by omega
  have hi3 : (3 : Int) < (n : Int) := by omega
  clear hr
  go_enter Tryz.func68, Tryz.ntmps68
  go_wp2
  go_quiet (fail)
  go_wp2
  go_ret
  exact ⟨rfl, _, rfl⟩

set_option maxHeartbeats 400000 in
theorem number_any (a b c d : UInt8) (r : List UInt8) (A : Option Addr) (n cap : Nat) (w : World) (hn : 4 ≤ n) (hr : Rd w A ((a :: b :: c :: d :: r).map bv)) :
    Calls Tryz.prog 78 #[.slice A n cap] w fun e w' => e = .returned (.int .i64 (num4 a b c d : Nat)) ∧ ∃ m, w' = w.drewN m := by
  obtain ⟨ad, rfl, h0⟩ := hr 0 (bv a) rfl
  obtain ⟨_, h, h1⟩ := hr 1 (bv b) rfl; injection h with h; subst h
  obtain ⟨_, h, h2⟩ := hr 2 (bv c) rfl; injection h with h; subst h
  obtain ⟨_, h, h3⟩ := hr 3 (bv d) rfl; injection h with h; subst h
  have hi0 : 0 < n := by omega
  have h0' : w.cell? ad = some (bv a) := h0
  have h1' : w.cell? ⟨ad.block, ad.off + 1, none⟩ = some (bv b) := h1
  have h2' : w.cell? ⟨ad.block, ad.off + 2, none⟩ = some (bv c) := h2
  have h3' : w.cell? ⟨ad.block, ad.off + 3, none⟩ = some (bv d) := h3
  clear h0 h1 h2 h3
  have hi1 : (1 : Int) < (n : Int) := by omega
  have hi2 : (2 : Int) < (n : Int) := by omega
  have hi3 : (3 : Int) < (n : Int) := by omega
  have ba := n8_bd a
  have bb := n8_bd b
  have bc := n8_bd c
  have bd := n8_bd d
  have HN : Hid (((num4 a b c d : Nat) : Int) = n8 a + 256 * n8 b + 65536 * n8 c + 16777216 * n8 d) := by
    show ((num4 a b c d : Nat) : Int) = _
    unfold num4 n8; omega
  clear hr
  go_enter Tryz.func78, Tryz.ntmps78
  go_wp2
  go_quiet (fail)
  go_wp2
  go_ret
  exact ⟨by rw [HN.out]; rfl, _, rfl⟩
end Go.Proofs.YtjnbbfhoegeppaaGreatDoor
end
section
/-
  Walks of the frames of the layer wal.
-/
set_option linter.unusedSimpArgs false
set_option linter.unusedVariables false
namespace Go.Proofs.YtjnbbfhoegeppaaGreatDoor
open Go.RowKit Go.Cv Go.Cv.Wal

/-- A row of bytes and a nil error. -/
def RetFrame (w : World) (y : Value) (n : Nat) (l : List UInt8) (e : Ending) (w' : World) : Prop :=
  ∃ A c, e = .returned (.tuple #[.slice A n c, y]) ∧ Ext w w' ∧ w'.ownsRow w.heap.size 5 1 (.slice A n c) n (l.map bv) ∧ n ≤ c ∧ c ≤ maxLen ∧ Rd w' A (l.map bv)

set_option maxHeartbeats 400000 in
theorem frame_long (A : Option Addr) (n cap : Nat) (w : World) (hn : 2097152 < n) (hm : n ≤ 140737488355328) :
    Calls Tryz.prog 41 #[.slice A n cap] w fun e w' => e = .returned (.tuple #[.slice none 0 0, .iface 48 (.int .i64 2)]) ∧ w = w' := by
  have hn' : (2097152 : Int) < (n : Int) := by omega
  go_enter Tryz.func41, Tryz.ntmps41
  go_wp2
  go_ret2
  exact ⟨rfl, rfl⟩

set_option maxHeartbeats 400000 in
theorem frame_any (A : Option Addr) (n cap : Nat) (l : List UInt8) (w : World) (hl : l.length = n) (hr : Rd w A (l.map bv)) (hn : n ≤ 2097152) :
    Calls Tryz.prog 41 #[.slice A n cap] w (RetFrame w .nilIface (8 + n) (frame l)) := by
  have hn' : ¬ (2097152 : Int) < (n : Int) := by omega
  have h32 : Hid (u32 (n : Int) = UInt32.ofNat n) := u32_of_nat n
  go_enter Tryz.func41, Tryz.ntmps41
  go_wp2_with fail
  rw [h32.out]
  refine (bytes_any (UInt32.ofNat n) w).mono ?_
  rintro e w1 ⟨A1, c1, rfl, hx1, ho1, hc1, hm1, hr1⟩
  go_wp2_with fail
  have hc1i : (4 : Int) ≤ (c1 : Int) := by omega
  go_region_law (first
    | (go_simp; go_at_call_of 66 (4294967295 : Int); (with_reducible refine (on_first _ _ _ (le4 (UInt32.ofNat n)) _ (le4_length _) hr1.drew (by omega)).mono ?_); rintro e w2 ⟨rfl, rfl⟩)
    | (go_simp; go_at_call 66; (with_reducible refine (on_any _ _ _ _ l _ hl ((hr.ext hx1).drew) (by omega)).mono ?_); rintro e w2 ⟨rfl, rfl⟩)
    | (go_simp; go_at_call 65; (with_reducible refine (bytes_any _ _).mono ?_); rintro e w2 ⟨A2, c2, rfl, hx2, ho2, hc2, hm2, hr2⟩)
    | (refine step_appnew rfl _ _ 43 5 1 rfl u8row A1 4 4 ((le4 (UInt32.ofNat n)).map bv) rfl rfl (hr1.drew.ext hx2) A2 4 c2 _ rfl rfl hr2 (by omega) (by simp [maxLen]) (by omega) ?_; intro A3 c3 w3 ho3 hc3 hm3 hr3 hx3))
  have hx13 : Ext w w3 := ((hx1.trans (ext_drew w1)).trans hx2).trans hx3
  have hbw : w.heap.size ≤ w2.heap.size := ((hx1.trans (ext_drew w1)).trans hx2).size
  go_wp2_with (at_builtin; refine wpList_app rfl _ _ 43 5 1 rfl u8row w2.heap.size _ 8 _ rfl ho3 A n cap (l.map bv) rfl (by simp [hl]) (hr.ext hx13) (one_map_bv l) (by simp [maxLen]; omega) (by omega) hx3.size ?_; intro A4 c4 w4 ho4 hc4 hm4 hr4 hE4 hg4)
  go_ret2
  rw [crc_append] at ho4 hr4
  have e : (le4 (UInt32.ofNat n)).map bv ++ (le4 (~~~(crc 4294967295 (le4 (UInt32.ofNat n) ++ l)))).map bv ++ l.map bv = (frame l).map bv := by
    rw [frame, hl, check]; simp
  rw [e] at ho4 hr4
  exact ⟨A4, c4, rfl, hE4 _ hx13 hbw, own_base ho4 hbw, hc4, hm4, hr4⟩

set_option maxHeartbeats 400000 in
theorem rframe_long (A : Option Addr) (n cap : Nat) (w : World) (hn : 2097152 < n) (hm : n ≤ 140737488355328) :
    Calls Tryz.prog 17 #[.slice A n cap] w fun e w' => e = .returned (.tuple #[.slice none 0 0, .int .i64 2]) ∧ w = w' := by
  have hn' : (2097152 : Int) < (n : Int) := by omega
  go_enter Tryz.func17, Tryz.ntmps17
  go_wp2
  go_ret2
  exact ⟨rfl, rfl⟩

set_option maxHeartbeats 400000 in
theorem rframe_any (A : Option Addr) (n cap : Nat) (l : List UInt8) (w : World) (hl : l.length = n) (hr : Rd w A (l.map bv)) (hn : n ≤ 2097152) :
    Calls Tryz.prog 17 #[.slice A n cap] w (RetFrame w (.int .i64 0) (8 + n) (frame l)) := by
  have hn' : ¬ (2097152 : Int) < (n : Int) := by omega
  have h32 : Hid (u32 (n : Int) = UInt32.ofNat n) := u32_of_nat n
  go_enter Tryz.func17, Tryz.ntmps17
  go_wp2_with fail
  rw [h32.out]
  refine (four_any (UInt32.ofNat n) w).mono ?_
  rintro e w1 ⟨A1, c1, rfl, hx1, ho1, hc1, hm1, hr1⟩
  have HL := Lib.hid (show (le4 (UInt32.ofNat n) ++ l).length = 4 + n by rw [List.length_append, le4_length, hl])
  go_wp2_with (first
    | (at_builtin; refine wpList_appb0 rfl (.tmp 14) (.tmp 15) 43 5 rfl u8row rfl A1 4 c1 (le4 (UInt32.ofNat n)) rfl rfl hr1 (by omega) ?_; intro A2 c2 w2 ho2 hc2 hm2 hr2 hx2)
    | (at_builtin; refine wpList_appb rfl (.tmp 17) (.tmp 18) 43 5 rfl u8row w1.heap.size _ 4 _ rfl ho2 A n cap l rfl hl (hr.ext (hx1.trans hx2)) (by omega) hx2.size ?_; intro A3 c3 w3 ho3 hc3 hm3 hr3 hE3; have hx3 := hE3 w1 hx2 (Nat.le_refl _); clear hE3)
    | (at_builtin; refine wpList_appb0 rfl (.tmp 20) (.tmp 21) 43 5 rfl u8row rfl A1 4 c1 (le4 (UInt32.ofNat n)) rfl rfl (hr1.ext hx3) (by omega) ?_; intro A4 c4 w4 ho4 hc4 hm4 hr4 hx4)
    | (go_at_call 48; refine (rcheck_any _ _ _ _ _ HL.out (hr3.ext hx4) (by omega)).mono ?_; rintro e w5 ⟨rfl, rfl⟩)
    | (go_at_call 47; refine (four_any _ _).mono ?_; rintro e w5 ⟨A5, c5, rfl, hx5, ho5, hc5, hm5, hr5⟩)
    | (at_builtin; refine wpList_appb rfl (.tmp 23) (.tmp 26) 43 5 rfl u8row w3.heap.size _ 4 _ rfl (own_ext ho4 hx5) A5 4 c5 _ rfl rfl hr5 (by omega) (hx4.trans hx5).size ?_; intro A6 c6 w6 ho6 hc6 hm6 hr6 hE6; have hx6 := hE6 w ((hx1.trans hx3).trans (hx4.trans hx5)) (hx1.trans hx3).size; have hs6 := (hE6 w3 (hx4.trans hx5) (Nat.le_refl _)).size; clear hE6)
    | (at_builtin; refine wpList_appb rfl (.tmp 28) (.tmp 29) 43 5 rfl u8row w3.heap.size _ 8 _ rfl ho6 A n cap l rfl hl (hr.ext hx6) (by omega) hs6 ?_; intro A7 c7 w7 ho7 hc7 hm7 hr7 hE7; have hx7 := hE7 w hx6 (hx1.trans hx3).size; clear hE7))
  have e : le4 (UInt32.ofNat n) ++ le4 (check (le4 (UInt32.ofNat n) ++ l)) ++ l = frame l := by
    rw [frame, hl]; simp
  rw [e] at ho7 hr7
  go_ret2
  exact ⟨A7, c7, rfl, hx7, own_base ho7 (hx1.trans hx3).size, hc7, hm7, hr7⟩
end Go.Proofs.YtjnbbfhoegeppaaGreatDoor
end
