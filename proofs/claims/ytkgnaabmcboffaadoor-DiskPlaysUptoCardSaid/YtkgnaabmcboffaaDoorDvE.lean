/-
  Walks of the answer's disk: append.
-/
import Derived.Test.YtkgnaabmcboffaaDoorDvD
import Derived.Deep.RegionLaw
set_option linter.unusedSimpArgs false
set_option linter.unusedVariables false
namespace Go.Proofs.YtkgnaabmcboffaaDoor
open Go.RowKit Go.Cv Go.Cv.Dk
theorem step_appbo {P : Program} {w : World} {ops : Array Oper} {o : Oper} {a : Act} {K : Act → World → Prop} {Q : Exit → Act → World → Prop} {E : Prop} (hgd : o.guard = none) (s x : Operand) (t e : TypeId)
    (ho : o.op = .call { callee := .builtin .append, args := #[s, x], argTypes := #[t, t] }) (hT : RowT P t e 1)
    (base : Nat) (v : Value) (n : Nat) (xs : List UInt8) (hs : a.eval s = v) (hown : w.ownsRow base e 1 v n (xs.map bv))
    (A : Option Addr) (m c : Nat) (news : List UInt8) (hx : a.eval x = .slice A m c) (hm : news.length = m) (hr : Rd w A (news.map bv))
    (hbytes : n + m ≤ 140737488355328) (hbase : base ≤ w.heap.size)
    (h : ∀ A' c' w', w'.ownsRow base e 1 (.slice A' (n + m) c') (n + m) ((xs ++ news).map bv) → n + m ≤ c' → w.grownBy w' v.ownBlock → K (a.put o.dst (.slice A' (n + m) c')) w') :
    if Region.wanted o (yielded ops a.tmps) = true then Oper.wp P o a w K Q else E := by
  have hw : Region.wanted o (yielded ops a.tmps) = true := by simp [Region.wanted, hgd]
  rw [if_pos hw]
  obtain ⟨ht, z, i, hi, hz, hsize, hby, hzs⟩ := hT
  refine wp_append_rd w s x t ho base e i z 1 ht hi hz hsize hby hzs v n _ hs hown A m c _ hx (by simpa using hm) hr (one_map_bv _) (by unfold maxLen; omega) (by omega) hbase fun v' w' h2 h3 h4 => ?_
  obtain ⟨A', c', rfl, hc, hcm, hr', _⟩ := own_form h2
  rw [← List.map_append] at h2
  exact h A' c' w' h2 hc h3
/-- A name and no bytes. -/
def e0 (x : List UInt8) : EF := ⟨⟨x, [], 0⟩, none, 0⟩
theorem used_ins (x : List UInt8) (l : List PF) : used (ins PF.nm ⟨x, [], 0⟩ l) = used l := by
  obtain ⟨m1, m2, e1, e2⟩ := ins_split PF.nm (⟨x, [], 0⟩ : PF) l
  rw [e2, e1, used_app, used_cons, used_app]
  show used m1 + (0 + used m2) = _
  omega
/-- What is behind an append. -/
theorem RAt.grown {w w3 : World} {B r c t n c3 : Nat} {S : DS} {l1 l2 : List EF} {e : EF} {A3 : Option Addr} {b : List UInt8} (h : RAt w B r S (some ⟨t, 0, none⟩) c (l1 ++ e :: l2)) (hx : Ext w w3)
    (ho : w3.ownsRow w.heap.size 5 1 (.slice A3 n c3) n ((e.f.b ++ b).map bv)) (hn : (e.f.b ++ b).length = n) (hc : n ≤ c3) (hl : n ≤ 140737488355328) (hB : B ≤ w.heap.size) (hu : (used S.l : Int) + b.length ≤ S.room) :
    RN w B r (rfoot r (some ⟨t, 0, none⟩) (l1 ++ e :: l2)) { S with l := (l1 ++ ⟨{ e.f with b := e.f.b ++ b }, A3, c3⟩ :: l2).map EF.f } (w3.setCell ⟨t, l1.length * 3 + 1, none⟩ (.slice A3 n c3)) := by
  have hlt : ∀ x ∈ rowOf A3, w.heap.size ≤ x ∧ x < w3.heap.size := fun x hx => ho.lt x (rowOf_own hx)
  have ht : t < w.heap.size := (h.tab.lt t (by simp [tfoot, rowOf])).2
  have hT := h.tab.ext hx
  have hE : EAt w3 B ⟨{ e.f with b := e.f.b ++ b }, A3, c3⟩ := ⟨Rd.of_own ho, by rw [hn]; exact hc, fun x hx => ⟨by have := (hlt x hx).1; omega, (hlt x hx).2⟩, by rw [hn]; exact hl⟩
  have ht3 := hT.set (e' := ⟨{ e.f with b := e.f.b ++ b }, A3, c3⟩) 1 (by omega) (.slice A3 n c3) (by simp only [ecells, hn]; rfl) hE (fun hm => by have := (hlt t hm).1; omega)
  refine h.tabbed ((Keep.of_ext (bs := [t]) hx).same (Keep.setCell w3 ⟨t, l1.length * 3 + 1, none⟩ _)) ht3 (fun x hx => .inr (hlt x hx).1) (ok_E (e := e) h.ok h.ls rfl ?_ ?_)
  · have hs := h.ok.sy e.f (by rw [h.ls]; simp)
    show e.f.sy ≤ (e.f.b ++ b).length
    rw [List.length_append]; omega
  · have := used_E (e := e) h.ok h.ls
    rw [h.ls, List.map_append, List.map_cons, used_app, used_cons] at hu
    show (used (l1.map EF.f) : Int) + (e.f.b ++ b).length + used (l2.map EF.f) ≤ S.room
    rw [List.length_append]
    omega
theorem app_ok_ {S : DS} {x b : List UInt8} (hx : nameOk x = true) (ho : S.off = false) (hr : (b.length : Int) ≤ S.room - used S.l) :
    app wrap64 S x b = (if (stepd S wrap64).1 then 0 else 11, { (stepd S wrap64).2 with l := Dk.upd (may S.l x) x fun f => { f with b := f.b ++ b } }) := by
  unfold app; rw [if_neg (by rw [hx]; simp), if_neg (by rw [ho]; simp), if_neg (by omega)]
theorem laid_split {w : World} {B r c : Nat} {S2 : DS} {T : Option Addr} {L : List EF} {x : List UInt8} (h : RAt w B r S2 T c (ins EF.nm (e0 x) L)) (hno : ∀ e ∈ L, e.f.nm ≠ x) :
    ∃ l1 l2 t, ins EF.nm (e0 x) L = l1 ++ e0 x :: l2 ∧ T = some ⟨t, 0, none⟩ ∧ (∀ z ∈ l1, z.f.nm ≠ x) ∧ (∀ z ∈ l2, z.f.nm ≠ x) ∧ fndi S2.l x = (l1.length : Nat) := by
  rcases h.found x with ⟨g1, g2, g3⟩ | ⟨l1, e, l2, t, hL, hT, g1, g2, g3, g5, g4⟩
  · exact absurd rfl (g3 (e0 x) ((ins_mem EF.nm (e0 x) L _).2 (.inl rfl)))
  · have he : e ∈ ins EF.nm (e0 x) L := by rw [hL]; simp
    rcases (ins_mem EF.nm (e0 x) L e).1 he with rfl | he
    · exact ⟨l1, l2, t, hL, hT, g3, g5, g4⟩
    · exact absurd g2 (hno e he)
theorem ok_ins {S : DS} (h : S.Ok) {x : List UInt8} (hx : nameOk x = true) (hno : ∀ f ∈ S.l, f.nm ≠ x) : DS.Ok { S with l := ins PF.nm ⟨x, [], 0⟩ S.l } := by
  have hm := ins_mem PF.nm (⟨x, [], 0⟩ : PF) S.l
  refine ⟨h.r0, h.r1, h.b0, h.b1, ?_, fun z hz => ?_, fun z hz => ?_, h.ris.ins hno⟩
  · obtain ⟨m1, m2, e1, e2⟩ := ins_split PF.nm (⟨x, [], 0⟩ : PF) S.l
    have := h.u
    rw [e1, used_app] at this
    show (used (ins PF.nm (⟨x, [], 0⟩ : PF) S.l) : Int) ≤ S.room
    rw [e2, used_app, used_cons]
    show ((used m1 + (0 + used m2) : Nat) : Int) ≤ S.room
    omega
  · rcases (hm z).1 hz with rfl | hz
    · exact hx
    · exact h.nm z hz
  · rcases (hm z).1 hz with rfl | hz
    · exact Nat.le_refl _
    · exact h.sy z hz
set_option maxHeartbeats 3200000 in
theorem rappend_old (B r : Nat) (S : DS) (t c : Nat) (l1 l2 : List EF) (e : EF) (s : ByteArray) (A : Option Addr) (m cb : Nat) (b : List UInt8) (w : World) (h : RAt w B r S (some ⟨t, 0, none⟩) c (l1 ++ e :: l2)) (hL : (l1 ++ e :: l2).length ≤ 1099511627776) (hB : B ≤ w.heap.size)
    (hm : b.length = m) (hr : Rd w A (b.map bv)) (hap : Ap A b (rfoot r (some ⟨t, 0, none⟩) (l1 ++ e :: l2))) (hbd : e.f.b.length + m ≤ 140737488355328) (hnm : nameOk s.data.toList = true) (ho : S.off = false) (hfit : (m : Int) ≤ S.room - used S.l)
    (g1 : Dk.get S.l s.data.toList = some e.f) (g2 : e.f.nm = s.data.toList) (g3 : ∀ z ∈ l1, z.f.nm ≠ s.data.toList) (g5 : ∀ z ∈ l2, z.f.nm ≠ s.data.toList) (g4 : fndi S.l s.data.toList = (l1.length : Nat)) :
    Calls Tryd.prog 23 #[.pointer (some ⟨r, 0, none⟩), .string s, .slice A m cb] w fun e' w' => e' = .returned (.int .i64 (app wrap64 S s.data.toList b).1) ∧ RN w B r (rfoot r (some ⟨t, 0, none⟩) (l1 ++ e :: l2)) (app wrap64 S s.data.toList b).2 w' := by
  refine calls_hid fun G hG => ?_
  have hN := rnamed_any s w
  rw [hnm] at hN
  have hU : ∀ q, Calls Tryd.prog 36 #[.pointer (some ⟨r, 0, none⟩)] (w.drewN q) fun e w' => e = .returned (.int .i64 (used S.l : Nat)) ∧ w' = w.drewN q := fun q => (rused_any B r S _ c _ _ (h.ext ((Ext.refl w).drewN q)) (by omega)).mono fun _ _ h => ⟨h.1, h.2.symm⟩
  have c2 := h.c2
  have c0 := h.c0
  rw [ho] at c2
  have hu := h.ok.u
  have hr1 := h.ok.r1
  have hr0 := h.ok.r0
  have hwr : IntKind.i64.wrap (S.room - (used S.l : Nat)) = S.room - (used S.l : Nat) := IntWalk.i64_in _ (by omega)
  have hft : decide (S.room - ((used S.l : Nat) : Int) < (m : Int)) = false := decide_eq_false (by omega)
  obtain ⟨dn, S1, hst⟩ : ∃ dn S1, stepd S wrap64 = (dn, S1) := ⟨_, _, rfl⟩
  have hT := fun w0 (hx : Ext w w0) => rstep_any B r S _ c _ w0 (h.ext hx)
  have hsl := stepd_l S wrap64
  have hg : ∀ w' A3 c3, RN w B r (rfoot r (some ⟨t, 0, none⟩) (l1 ++ e :: l2)) { S1 with l := (l1 ++ ⟨{ e.f with b := e.f.b ++ b }, A3, c3⟩ :: l2).map EF.f } w' → G (.returned (.int .i64 (if dn then 0 else 11))) w' := fun w' A3 c3 hd => hG.out _ _ (by
    have e1 : may S.l s.data.toList = S.l := if_pos (by unfold Dk.has; rw [g1]; rfl)
    rw [app_ok_ hnm ho (by rw [hm]; exact hfit), e1, upd_E (g := fun f => { f with b := f.b ++ b }) (e' := ⟨{ e.f with b := e.f.b ++ b }, A3, c3⟩) h.ls g3 g5 g2 rfl, hst]
    exact ⟨by cases dn <;> rfl, hd⟩)
  rw [hst] at hT hsl
  have hF : ∀ w1, RAt w1 B r S1 (some ⟨t, 0, none⟩) c (l1 ++ e :: l2) → Calls Tryd.prog 41 #[.pointer (some ⟨r, 0, none⟩), .string s] w1 fun e w' => e = .returned (.int .i64 (l1.length : Nat)) ∧ w1 = w' := fun w1 h1 => by
    have := rfind_any B r S1 _ c _ s w1 h1 (by omega)
    rw [hsl.1, g4] at this
    exact this
  replace hg := Lib.hid hg
  have hus : (used S1.l : Int) + m ≤ S1.room := by rw [hsl.1, hsl.2]; show (used S.l : Int) + m ≤ S.room; omega
  obtain ⟨n, hn⟩ : ∃ n, n = (l1 ++ e :: l2).length := ⟨_, rfl⟩
  obtain ⟨k, hk⟩ : ∃ k, k = l1.length := ⟨_, rfl⟩
  obtain ⟨q, hq⟩ : ∃ q, q = e.f.b.length := ⟨_, rfl⟩
  have hkn : k < n := by rw [hn, hk]; simp
  rw [← hk] at hF
  rw [← hn] at hL
  rw [← hq] at hbd
  replace hn := Lib.hid hn
  replace hk := Lib.hid hk
  replace hq := Lib.hid hq
  replace hm := Lib.hid hm
  replace hst := Lib.hid hst
  replace hus := Lib.hid hus
  clear hG h g1 g2 g3 g5 g4 hsl hnm ho hfit hu
  go_enter Tryd.func23, Tryd.ntmps23
  go_wp2_with (go_at_call 39; (with_reducible refine hN.mono ?_); rintro e' w' ⟨rfl, rfl⟩)
  go_quiet ((go_at_call 36; exact Calls.quiet_of_same (hU _)))
  go_wp2_with (first
    | (go_at_call 40; (with_reducible refine (hT _ ((Ext.refl w).drewN _)).mono ?_); rintro e' w1 ⟨rfl, hD1, hk1⟩; have v1 := hD1.c1; rw [← hn.out] at v1; obtain ⟨t', ht', _, _, d0, d1, d2, hfr⟩ := hD1.tab.at; injection ht' with ht'; injection ht' with ht' _ _; subst ht'; rw [← hk.out] at d0 d1 d2; rw [← hq.out] at d1; have hfr1 := hfr (k * 3 + 1); have hrt : r ∉ [t] := (fun hm => hD1.ap (by rw [List.mem_singleton.1 hm]; simp [tfoot, rowOf])); have hrd := (hD1.tab.fl e (by simp)).rd; have hB1 : B ≤ w1.heap.size := Nat.le_trans hB hk1.size; have hr1b : Rd w1 A (b.map bv) := hap.keep (hr.drewN _) hk1 (by simp [rfoot]); replace hD1 := Lib.hid hD1; clear hfr)
    | (go_at_call 41; (with_reducible refine (hF _ hD1.out).mono ?_); rintro e' w' ⟨rfl, rfl⟩)
    | (at_builtin; (refine wpList_appbo rfl (.tmp 46) (.tmp 54) 22 5 rfl u8rowD w1.heap.size (.slice none 0 0) 0 [] rfl (World.ownsRow_nil _ _ _ _) e.A q e.c e.f.b rfl hq.out.symm hrd (by omega) (Nat.le_refl _) ?_; intro A2 c2' w2 ho2 hc2 hm2 hat2 hgr2; have x2 : Ext w1 w2 := (Keep.grown (bs := []) hgr2 (fun k hk => by cases hk)).below (by simp) (Nat.le_refl _); rw [Nat.zero_add, List.nil_append] at ho2; have v2 := x2.cell v1; have hr2 : Rd w2 A (b.map bv) := hr1b.ext x2; have ho2' := own_ext ho2 (ext_drew w2); have d1' := x2.cell d1; have x2s := x2.size)))
  go_region_law ((refine step_appbo rfl (.tmp 61) (.tmp 62) 22 5 rfl u8rowD w1.heap.size (.slice A2 q c2') q e.f.b (by simp [Act.eval, Act.put]) ho2' A m cb b (by simp [Act.eval, Act.put]) hm.out hr2.drew hbd x2s ?_; intro A3 c3 w3 ho3 hc3 hgr3; have x3 : Ext w1 w3 := Go.Cv.ext_grown (x2.trans (ext_drew w2)) ho2' (Nat.le_refl _) hgr3; have v3 := x3.cell v1; have d3 := x3.cell d1; have hfr3 : w3.frozen? ⟨t, k * 3 + 1, none⟩ = false := (by obtain ⟨t', ht', _, _, _, _, _, hfr⟩ := (hD1.out.tab.ext x3).at; injection ht' with ht'; injection ht' with ht' _ _; subst ht'; exact hfr _)))
  all_goals
    have hrn := hD1.out.grown (b := b) (n := q + m) (c3 := c3) x3 ho3 (by rw [List.length_append, hm.out, ← hq.out]) hc3 hbd hB1 (by rw [hm.out]; exact hus.out)
    rw [← hk.out] at hrn
    have hgf := hg.out _ A3 c3 (RN.then (Stp.after ((Ext.refl w).drewN _) (stp_r hk1)) hrn)
    clear hg hrn hD1 hF hT hU
    cases dn
    · go_wp2
      exact hgf
    · go_wp2
      exact hgf
set_option maxHeartbeats 3200000 in
theorem rappend_new (B r : Nat) (S : DS) (T : Option Addr) (c : Nat) (L : List EF) (s : ByteArray) (A : Option Addr) (m cb : Nat) (b : List UInt8) (w : World) (h : RAt w B r S T c L) (hL : L.length < 1099511627776) (hB : B ≤ w.heap.size)
    (hm : b.length = m) (hr : Rd w A (b.map bv)) (hap : Ap A b (rfoot r T L)) (hbd : m ≤ 140737488355328) (hnm : nameOk s.data.toList = true) (ho : S.off = false) (hfit : (m : Int) ≤ S.room - used S.l)
    (g1 : Dk.get S.l s.data.toList = none) :
    Calls Tryd.prog 23 #[.pointer (some ⟨r, 0, none⟩), .string s, .slice A m cb] w fun e' w' => e' = .returned (.int .i64 (app wrap64 S s.data.toList b).1) ∧ RN w B r (rfoot r T L) (app wrap64 S s.data.toList b).2 w' := by
  refine calls_hid fun G hG => ?_
  have hN := rnamed_any s w
  rw [hnm] at hN
  have hU : ∀ q, Calls Tryd.prog 36 #[.pointer (some ⟨r, 0, none⟩)] (w.drewN q) fun e w' => e = .returned (.int .i64 (used S.l : Nat)) ∧ w' = w.drewN q := fun q => (rused_any B r S _ c _ _ (h.ext ((Ext.refl w).drewN q)) (by omega)).mono fun _ _ h => ⟨h.1, h.2.symm⟩
  have c2 := h.c2
  have c0 := h.c0
  rw [ho] at c2
  have hu := h.ok.u
  have hr1 := h.ok.r1
  have hr0 := h.ok.r0
  have hwr : IntKind.i64.wrap (S.room - (used S.l : Nat)) = S.room - (used S.l : Nat) := IntWalk.i64_in _ (by omega)
  have hft : decide (S.room - ((used S.l : Nat) : Int) < (m : Int)) = false := decide_eq_false (by omega)
  obtain ⟨dn, S1, hst⟩ : ∃ dn S1, stepd S wrap64 = (dn, S1) := ⟨_, _, rfl⟩
  have hT := fun w0 (hx : Ext w w0) => rstep_any B r S _ c _ w0 (h.ext hx)
  have hsl := stepd_l S wrap64
  have hno : ∀ e ∈ L, e.f.nm ≠ s.data.toList := fun e he => get_none g1 _ (by rw [h.ls]; exact List.mem_map.2 ⟨e, he, rfl⟩)
  have hg : ∀ w' S', S' = { S1 with l := Dk.upd (ins PF.nm ⟨s.data.toList, [], 0⟩ S1.l) s.data.toList fun f => { f with b := f.b ++ b } } → RN w B r (rfoot r T L) S' w' → G (.returned (.int .i64 (if dn then 0 else 11))) w' := fun w' S' hS hd => hG.out _ _ (by
    have e1 : may S.l s.data.toList = ins PF.nm ⟨s.data.toList, [], 0⟩ S.l := if_neg (by unfold Dk.has; rw [g1]; simp)
    rw [hst] at hsl
    rw [app_ok_ hnm ho (by rw [hm]; exact hfit), e1, hst, ← hsl.1, ← hS]
    exact ⟨by cases dn <;> rfl, hd⟩)
  rw [hst] at hT hsl
  have hF : ∀ w1, RAt w1 B r S1 T c L → Calls Tryd.prog 41 #[.pointer (some ⟨r, 0, none⟩), .string s] w1 fun e w' => e = .returned (.int .i64 (-1)) ∧ w1 = w' := fun w1 h1 => by
    have := rfind_any B r S1 _ c _ s w1 h1 (by omega)
    rw [hsl.1, fndi_no (get_none g1)] at this
    exact this
  have hP : ∀ w1, RAt w1 B r S1 T c L → B ≤ w1.heap.size → Calls Tryd.prog 42 #[.pointer (some ⟨r, 0, none⟩), .agg #[.string s, .slice none 0 0, .int .i64 0]] w1 fun e' w' => e' = .returned (.tuple #[]) ∧ ∃ T' c', RAt w' B r { S1 with l := ins PF.nm ⟨s.data.toList, [], 0⟩ S1.l } T' c' (ins EF.nm (e0 s.data.toList) L) ∧ Stp (rfoot r T L) (rfoot r T' (ins EF.nm (e0 s.data.toList) L)) w1 w' ∧ Keep [r] w1 w' := fun w1 h1 hB1 =>
    rlay_any B r S1 T c L (e0 s.data.toList) w1 (rfoot r T L) h1 ⟨Rd.nil_, Nat.le_refl _, by simp [e0, rowOf], Nat.zero_le _⟩ (by simp [e0, rowOf]) (ok_ins h1.ok hnm (by rw [hsl.1]; exact get_none g1)) (by omega) hB1 (fun _ h => h) (by simp [e0, rowOf])
  replace hg := Lib.hid hg
  have hus : (used S1.l : Int) + m ≤ S1.room := by rw [hsl.1, hsl.2]; show (used S.l : Int) + m ≤ S.room; omega
  replace hm := Lib.hid hm
  replace hst := Lib.hid hst
  replace hus := Lib.hid hus
  replace hno := Lib.hid hno
  clear hG h g1 hsl hnm ho hfit hu
  go_enter Tryd.func23, Tryd.ntmps23
  go_wp2_with (go_at_call 39; (with_reducible refine hN.mono ?_); rintro e' w' ⟨rfl, rfl⟩)
  go_quiet ((go_at_call 36; exact Calls.quiet_of_same (hU _)))
  go_wp2_with (first
    | (go_at_call 40; (with_reducible refine (hT _ ((Ext.refl w).drewN _)).mono ?_); rintro e' w1 ⟨rfl, hD1, hk1⟩; have hB1 : B ≤ w1.heap.size := Nat.le_trans hB hk1.size; have hF1 := hF _ hD1; have hP1 := hP _ hD1 hB1; clear hF hP)
    | (go_at_call 41; (with_reducible refine hF1.mono ?_); rintro e' w' ⟨rfl, rfl⟩; clear hF1)
    | (go_at_call 42; (with_reducible refine hP1.mono ?_); rintro e' w2 ⟨rfl, T2, c2', hD2, hS2, _⟩; obtain ⟨l1, l2, t, hins, rfl, n1, n2, hf2⟩ := laid_split hD2 hno.out; rw [hins] at hD2 hS2; have hlen := congrArg List.length hins; rw [ins_length, List.length_append, List.length_cons] at hlen; obtain ⟨k, hk⟩ : ∃ k, k = l1.length := ⟨_, rfl⟩; obtain ⟨n, hn⟩ : ∃ n, n = (l1 ++ e0 s.data.toList :: l2).length := ⟨_, rfl⟩; have hkn : k < n := (by rw [hn, hk]; simp); have hF2 := rfind_any B r _ _ c2' _ s w2 hD2 (by rw [← hins, ins_length]; omega); rw [hf2, ← hk] at hF2; have v1 := hD2.c1; rw [← hn] at v1; obtain ⟨t', ht', _, _, d0, d1, d2, hfr⟩ := hD2.tab.at; injection ht' with ht'; injection ht' with ht' _ _; subst ht'; rw [← hk] at d0 d1 d2; have hB2 : B ≤ w2.heap.size := Nat.le_trans hB1 hS2.k.size; have hst2 : Stp (rfoot r T L) (rfoot r (some ⟨t, 0, none⟩) (l1 ++ e0 s.data.toList :: l2)) w w2 := Stp.after ((Ext.refl w).drewN _) ((stp_r hk1).trans hS2); have hr2b : Rd w2 A (b.map bv) := (hap.step hr hst2).2; replace hD2 := Lib.hid hD2; replace hk := Lib.hid hk; replace hn := Lib.hid hn; replace hins := Lib.hid hins; replace hf2 := Lib.hid hf2; replace n1 := Lib.hid n1; replace n2 := Lib.hid n2; replace hlen := Lib.hid hlen; clear hfr)
    | (go_at_call 41; (with_reducible refine hF2.mono ?_); rintro e' w' ⟨rfl, rfl⟩)
    | (at_builtin; (refine wpList_appbo rfl (.tmp 46) (.tmp 54) 22 5 rfl u8rowD w2.heap.size (.slice none 0 0) 0 [] rfl (World.ownsRow_nil _ _ _ _) none 0 0 [] rfl rfl Rd.nil_ (by omega) (Nat.le_refl _) ?_; intro A2 c2b w3 ho2 hc2 hm2 hat2 hgr2; have x2 : Ext w2 w3 := (Keep.grown (bs := []) hgr2 (fun k hk => by cases hk)).below (by simp) (Nat.le_refl _); have v2 := x2.cell v1; have hr2 : Rd w3 A (b.map bv) := hr2b.ext x2; have ho2' := own_ext ho2 (ext_drew w3); have d1' := x2.cell d1; have x2s := x2.size)))
  go_region_law ((refine step_appbo rfl (.tmp 61) (.tmp 62) 22 5 rfl u8rowD w2.heap.size (.slice A2 0 c2b) 0 [] (by simp [Act.eval, Act.put]) ho2' A m cb b (by simp [Act.eval, Act.put]) hm.out hr2.drew (by omega) x2s ?_; intro A3 c3 w4 ho3 hc3 hgr3; have x3 : Ext w2 w4 := Go.Cv.ext_grown (x2.trans (ext_drew w3)) ho2' (Nat.le_refl _) hgr3; have v3 := x3.cell v1; have d3 := x3.cell d1; have hfr3 : w4.frozen? ⟨t, k * 3 + 1, none⟩ = false := (by obtain ⟨t', ht', _, _, _, _, _, hfr⟩ := (hD2.out.tab.ext x3).at; injection ht' with ht'; injection ht' with ht' _ _; subst ht'; exact hfr _)))
  all_goals
    rw [Nat.zero_add] at ho3 hc3
    have hrn := hD2.out.grown (e := e0 s.data.toList) (b := b) (n := m) (c3 := c3) x3 ho3 hm.out hc3 hbd hB2 (by
      show (used (ins PF.nm ⟨s.data.toList, [], 0⟩ S1.l) : Int) + b.length ≤ S1.room
      rw [used_ins, hm.out]; exact hus.out)
    rw [← hk.out] at hrn
    have hgf := hg.out _ _ (by
      show ({ S1 with l := _ } : DS) = { S1 with l := _ }
      rw [upd_E (S := { S1 with l := ins PF.nm ⟨s.data.toList, [], 0⟩ S1.l }) (g := fun f => { f with b := f.b ++ b }) (e' := ⟨{ (e0 s.data.toList).f with b := (e0 s.data.toList).f.b ++ b }, A3, c3⟩) hD2.out.ls n1.out n2.out rfl rfl]) (RN.then hst2 hrn)
    clear hg hrn hD2 hF2 hT hU hP1
    cases dn
    · go_wp2
      exact hgf
    · go_wp2
      exact hgf
set_option maxHeartbeats 1600000 in
theorem rappend_any (B r : Nat) (S : DS) (T : Option Addr) (c : Nat) (L : List EF) (s : ByteArray) (A : Option Addr) (m cb : Nat) (b : List UInt8) (w : World) (h : RAt w B r S T c L) (hL : L.length < 1099511627776) (hB : B ≤ w.heap.size)
    (hm : b.length = m) (hr : Rd w A (b.map bv)) (hap : Ap A b (rfoot r T L)) (hbd : (cont S s.data.toList).length + m ≤ 140737488355328) :
    Calls Tryd.prog 23 #[.pointer (some ⟨r, 0, none⟩), .string s, .slice A m cb] w fun e' w' => e' = .returned (.int .i64 (app wrap64 S s.data.toList b).1) ∧ RN w B r (rfoot r T L) (app wrap64 S s.data.toList b).2 w' := by
  have hN := rnamed_any s w
  rcases hnm : nameOk s.data.toList with _ | _
  · refine calls_hid fun G hG => ?_
    have hg : G (.returned (.int .i64 1)) w := hG.out _ _ (by
      have e : app wrap64 S s.data.toList b = (1, S) := by unfold app; rw [if_pos hnm]
      rw [e]; exact ⟨rfl, RN.same h⟩)
    rw [hnm] at hN
    clear hG h
    go_enter Tryd.func23, Tryd.ntmps23
    go_wp2_with (go_at_call 39; (with_reducible refine hN.mono ?_); rintro e' w' ⟨rfl, rfl⟩)
    exact hg
  · rcases ho : S.off with _ | _
    · by_cases hfit : (m : Int) ≤ S.room - used S.l
      · rcases h.found s.data.toList with ⟨g1, g2, g3⟩ | ⟨l1, e, l2, t, rfl, rfl, g1, g2, g3, g5, g4⟩
        · exact rappend_new B r S T c L s A m cb b w h hL hB hm hr hap (by omega) hnm ho hfit g1
        · have hct : cont S s.data.toList = e.f.b := by unfold cont; rw [g1]
          rw [hct] at hbd
          exact rappend_old B r S t c l1 l2 e s A m cb b w h (by omega) hB hm hr hap hbd hnm ho hfit g1 g2 g3 g5 g4
      · refine calls_hid fun G hG => ?_
        have hg : ∀ q, G (.returned (.int .i64 12)) (w.drewN q) := fun q => hG.out _ _ (by
          have e : app wrap64 S s.data.toList b = (12, S) := by unfold app; rw [if_neg (by rw [hnm]; simp), if_neg (by rw [ho]; simp), if_pos (by omega)]
          rw [e]; exact ⟨rfl, ⟨_, ⟨T, c, L, h.ext ((Ext.refl w).drewN q), rfl⟩, Stp.of_ext ((Ext.refl w).drewN q)⟩⟩)
        have hU : ∀ q, Calls Tryd.prog 36 #[.pointer (some ⟨r, 0, none⟩)] (w.drewN q) fun e w' => e = .returned (.int .i64 (used S.l : Nat)) ∧ w' = w.drewN q := fun q => (rused_any B r S _ c _ _ (h.ext ((Ext.refl w).drewN q)) (by omega)).mono fun _ _ h => ⟨h.1, h.2.symm⟩
        have c2 := h.c2
        have c0 := h.c0
        rw [ho] at c2
        have hu := h.ok.u
        have hr1 := h.ok.r1
        have hr0 := h.ok.r0
        have hwr : IntKind.i64.wrap (S.room - (used S.l : Nat)) = S.room - (used S.l : Nat) := IntWalk.i64_in _ (by omega)
        have hft : decide (S.room - ((used S.l : Nat) : Int) < (m : Int)) = true := decide_eq_true (by omega)
        rw [hnm] at hN
        clear hG h hfit hu
        go_enter Tryd.func23, Tryd.ntmps23
        go_wp2_with (go_at_call 39; (with_reducible refine hN.mono ?_); rintro e' w' ⟨rfl, rfl⟩)
        go_quiet ((go_at_call 36; exact Calls.quiet_of_same (hU _)))
        go_wp2
        exact hg _
    · refine calls_hid fun G hG => ?_
      have hg : G (.returned (.int .i64 11)) w := hG.out _ _ (by
        have e : app wrap64 S s.data.toList b = (11, S) := by unfold app; rw [if_neg (by rw [hnm]; simp), if_pos ho]
        rw [e]; exact ⟨rfl, RN.same h⟩)
      rw [hnm] at hN
      have c2 := h.c2
      rw [ho] at c2
      clear hG h
      go_enter Tryd.func23, Tryd.ntmps23
      go_wp2_with (go_at_call 39; (with_reducible refine hN.mono ?_); rintro e' w' ⟨rfl, rfl⟩)
      exact hg
end Go.Proofs.YtkgnaabmcboffaaDoor
