/-
  What is read and told again is the same: the statement UtfBack.
-/
import Derived.Test.YthdniboajbhhiaaDoorUtfQ
import Derived.BigQuiet
set_option linter.unusedSimpArgs false
set_option linter.unusedVariables false
namespace Go.Proofs.YthdniboajbhhiaaDoor
open Go.RowKit Go.Cv Go.Cv.Utf Go.Cv.Dig
set_option maxHeartbeats 4000000 in
theorem points_okL (s : ByteArray) (w : World) (hT : Lib.Utf8Tabs 2 3 w) (hb : badAt s = -1) (hs : s.size ≤ 5000000) :
    Calls Tryd.prog 14 #[.string s] w fun e w' => ∃ v, e = .returned (.tuple #[v, .nilIface]) ∧ Ints w' v (pts s) ∧ Ext w w' := by
  have hso := sound_ok s w hT hb
  clear hb hT
  go_enter Tryd.func14, Tryd.ntmps14
  go_wp2_with (go_at_call 24; with_reducible refine hso.mono ?_; rintro e w1 ⟨rfl, hx1⟩)
  clear hso
  go_loopw [5] (fun v wr => ∃ (pos b q : Nat) (ds : List Nat), ItIs w1 wr s pos ∧ wr.ownsRow (w1.heap.size + 1) 3 1 v q (ds.map iv) ∧ Hid (ds ++ ptsFrom s b pos = pts s) ∧ q ≤ pos ∧ s.size ≤ pos + b ∧ q ≤ s.size) (fun _ wr => s.size - wr.iterPos w1.heap.size)
  case atStart => exact ⟨0, s.size, 0, [], ItIs.start w1 s, World.ownsRow_nil _ _ _ 1, Lib.hid rfl, by omega, by omega, by omega⟩
  case round =>
    obtain ⟨pos, b, q, ds, hI, ho, hds, hqp, hsz, hqs⟩ := hrel
    have hI2 := Lib.hid hI
    obtain ⟨C, cc, rfl, hnc, hcm, hrd, hlen⟩ := own_form ho
    by_cases hp : pos < s.size
    · have hnx := fun ty => Lib.run_next_any_at (P := Tryd.prog) wr w1.heap.size s pos ty hI.it hp
      have hw1 := dec_pos s pos hp
      have hrl := Lib.rune_le s pos
      obtain ⟨b, rfl⟩ : ∃ b', b = b' + 1 := ⟨b - 1, by omega⟩
      have hd := hds.out
      simp only [ptsFrom, if_pos hp] at hd
      have hI3 := Lib.hid (hI2.out.move (pos + (Utf8.decode s pos).2))
      have ho3 := ownsRow_iterAt ho (Nat.lt_succ_self w1.heap.size) s (pos + (Utf8.decode s pos).2)
      have hpl := Lib.hid (hI2.out.pos_)
      clear hI hds
      generalize (Utf8.decode s pos).1 = r at *
      generalize (Utf8.decode s pos).2 = k at *
      have hd2 : Hid ((ds ++ [r]) ++ ptsFrom s b (pos + k) = pts s) := Lib.hid (by rw [← hd]; simp)
      have hw : IntKind.i64.wrap (r : Int) = (r : Int) := IntWalk.i64_in _ (by omega)
      clear hd ho
      go_wp2_with (at_builtin; refine wpList_app rfl (.tmp 18) (.tmp 21) 33 3 8 rfl introw (w1.heap.size + 1) _ q _ rfl (own_ext ho3 (ext_alloc _ _)) _ 1 1 [iv r] rfl rfl (rd_new_one _ _ _) (one_map_iv [_]) (by simp [maxLen]; omega) (by omega) (Nat.le_trans hI3.out.size (ext_alloc _ _).size) ?_; intro A2 c2' w2 ho2 hc2 hm2 hr2' hE2 hg2; have hEn := hE2 (w1.iter s (pos + k)) (hI3.out.toExt.trans (ext_alloc _ _)) (Nat.le_of_eq (iter_size _ _ _)); clear hE2 hg2 hr2')
      have hI4 := ItIs.ofExt hEn
      refine ⟨⟨pos + k, b, q + 1, ds ++ [r], hI4, by rw [List.map_append]; exact ho2, hd2, by omega, by omega, by omega⟩, ?_⟩
      rw [hI4.pos_, hpl.out]
      omega
    · have hnx := fun ty => Lib.run_next_end_at (P := Tryd.prog) wr w1.heap.size s pos ty hI.it hp
      have hd2 : Hid (ds = pts s) := Lib.hid (by have := hds.out; rwa [ptsFrom_end _ _ _ hp, List.append_nil] at this)
      clear hI hds
      go_wp2
      go_ret2
      refine ⟨_, rfl, ?_, hx1.trans hI2.out.ext⟩
      rw [← hd2.out]
      exact ⟨C, q, cc, rfl, by simpa using hlen, hnc, hrd⟩

theorem toNat_inj_list : ∀ {a b : List UInt8}, a.map UInt8.toNat = b.map UInt8.toNat → a = b
  | [], [], _ => rfl
  | [], _ :: _, h => by simp at h
  | _ :: _, [], h => by simp at h
  | x :: a, y :: b, h => by
    simp only [List.map_cons, List.cons.injEq] at h
    rw [UInt8.toNat_inj.1 h.1, toNat_inj_list h.2]
theorem encU_nums (p : Nat) (h : p ≤ 1114111) : (encU p).map UInt8.toNat = encN p := by
  have g1 : ∀ z : Int, 0 ≤ z → z < 256 → (u8 z).toNat = z.toNat := fun z h0 h1 => by have := n8u z ⟨h0, h1⟩; omega
  have g2 : ∀ (c : UInt8) (k : Nat) (z : Int), c.toNat = k → 0 ≤ z → z + k < 256 → (c + u8 z).toNat = k + z.toNat := fun c k z hc h0 h1 => by
    have := n8add c z ⟨h0, by rw [hc]; exact h1⟩
    omega
  unfold encU encN
  split
  · simp only [List.map_cons, List.map_nil]
    rw [g1 _ (by omega) (by omega)]; rfl
  · split
    · simp only [List.map_cons, List.map_nil]
      rw [g2 192 192 _ rfl (by omega) (by omega), g2 128 128 _ rfl (by omega) (by omega)]
      simp only [List.cons.injEq, and_true]
      omega
    · split
      · simp only [List.map_cons, List.map_nil]
        rw [g2 224 224 _ rfl (by omega) (by omega), g2 128 128 _ rfl (by omega) (by omega), g2 128 128 _ rfl (by omega) (by omega)]
        simp only [List.cons.injEq, and_true]
        omega
      · simp only [List.map_cons, List.map_nil]
        rw [g2 240 240 _ rfl (by omega) (by omega), g2 128 128 _ rfl (by omega) (by omega), g2 128 128 _ rfl (by omega) (by omega), g2 128 128 _ rfl (by omega) (by omega)]
        simp only [List.cons.injEq, and_true]
        omega
theorem okI_pt (x : Int) (h : okI x) : isPt x.toNat = true := by
  rw [isPt_iff]
  obtain ⟨h0, h1, h2⟩ := h
  omega
theorem pt_okI (p : Nat) (h : isPt p = true) : okI (p : Int) := by
  rw [isPt_iff] at h
  exact ⟨by omega, by omega, by omega⟩
theorem tb_nums : ∀ (l : List Int), (∀ x ∈ l, okI x) → (tb l).map UInt8.toNat = flat (l.map Int.toNat)
  | [], _ => rfl
  | x :: l, h => by
    have e : tb (x :: l) = encU x.toNat ++ tb l := by simp [tb]
    rw [e, List.map_append, List.map_cons, flat_cons, tb_nums l (fun y hy => h y (by simp [hy])), encU_nums _ (by have := (h x (by simp)).2.1; omega)]
theorem tb_sound (l : List Int) (h : ∀ x ∈ l, okI x) : badAt ⟨(tb l).toArray⟩ = -1 ∧ pts ⟨(tb l).toArray⟩ = l.map Int.toNat :=
  sound_of (by unfold nums; simpa using tb_nums l h) (fun p hp => by
    obtain ⟨x, hx, rfl⟩ := List.mem_map.1 hp
    exact okI_pt x (h x hx))
theorem tb_pts (s : ByteArray) (hb : badAt s = -1) : tb ((pts s).map Int.ofNat) = s.data.toList := by
  apply toNat_inj_list
  rw [tb_nums _ (fun x hx => by
    obtain ⟨p, hp, rfl⟩ := List.mem_map.1 hx
    exact pt_okI p ((flat_pts hb).2 p hp))]
  have e : ((pts s).map Int.ofNat).map Int.toNat = pts s := by simp [Function.comp_def]
  rw [e]
  exact (flat_pts hb).1.symm
theorem text_back (s : ByteArray) (v : Value) (w : World) (hv : Ints w v (pts s)) (hb : badAt s = -1) (hs : s.size ≤ 2000000) :
    Calls Tryd.prog 15 #[v] w fun e w' => e = .returned (.tuple #[.string s, .nilIface]) ∧ Ext w w' := by
  obtain ⟨A, n, c, rfl, hn, hc, hr⟩ := hv
  have h := text_ok A n c ((pts s).map Int.ofNat) w (by simpa using hn) (by simpa [Function.comp_def] using hr) (by have := pts_len s; omega) (fun x hx => by
    obtain ⟨p, hp, rfl⟩ := List.mem_map.1 hx
    exact pt_okI p ((flat_pts hb).2 p hp))
  rw [tb_pts s hb] at h
  exact h
theorem cut_back (s t : ByteArray) (w : World) (hT : Lib.Utf8Tabs 2 3 w) (hs : badAt s = -1) (ht : badAt t = -1) (hb : s.size + t.size ≤ 2000000) :
    Calls Tryd.prog 17 #[.string (s ++ t), .int .i64 s.size] w fun e w' => e = .returned (.tuple #[.string s, .nilIface]) ∧ Ext w w' := by
  by_cases h0 : t.size = 0
  · have e : s ++ t = s := by
      have h1 := extract_left s t
      have h2 : (s ++ t).size = s.size := by rw [size_append_]; omega
      have h3 : ∀ u : ByteArray, u.extract 0 u.size = u := fun u => by simp
      rw [← h2, h3] at h1
      exact h1
    rw [e]
    exact cut_all s s.size w hT hs (by omega) (by omega)
  · have h := cut_some (s ++ t) s.size w hT (sound_append hs ht) (by rw [size_append_]; omega) (by rw [size_append_]; omega)
    rw [cutN_join ht (by omega), extract_left] at h
    exact h
/-- The arguments' list, as the answer's numbers. -/
theorem ints_arg {w : World} {A : Option Addr} {n cap : Nat} {l : List Int} (h : ArgI w A n cap l) (hok : ∀ x ∈ l, okI x) : Ints w (.slice A n cap) (l.map Int.toNat) := by
  refine ⟨A, n, cap, rfl, by simpa using h.len, h.le, ?_⟩
  have e : (l.map Int.toNat).map iv = l.map (Value.int .i64) := by
    rw [List.map_map]
    apply List.map_congr_left
    intro x hx
    show Value.int .i64 ((x.toNat : Nat) : Int) = _
    rw [Int.toNat_of_nonneg (hok x hx).1]
  rw [e]
  exact h.rd
set_option maxRecDepth 8000 in
set_option maxHeartbeats 8000000 in
theorem utfback_any (s t : ByteArray) (A : Option Addr) (n cap : Nat) (l : List Int) (w : World) (hT : Lib.Utf8Tabs 2 3 w) (hl : ArgI w A n cap l) (bnd : s.size + t.size + cap ≤ 1048576) :
    Calls Tryd.prog 5 #[.string s, .string t, .slice A n cap] w fun e w' => e = .returned (.bool true) ∧ Ext w w' := by
  have hs := shown_any w hT
  have hle := hl.le
  have hq := pts_len t
  have hs2 : s.size ≤ 2000000 := by omega
  have ht2 : t.size ≤ 2000000 := by omega
  have hrl := hl.rd
  have hlen := hl.len
  rcases badAt_two s with hbs | ⟨p, hbs, -⟩
  · rcases badAt_two t with hbt | ⟨q, hbt, -⟩
    · rcases two_okI l with hok | ⟨m, hm, hok, hbad⟩
      · have hps := fun w h => points_ok s w h hbs hs2
        have hpt : ∀ w, Lib.Utf8Tabs 2 3 w → Calls Tryd.prog 14 #[.string t] w fun e w' => ∃ A n c, e = .returned (.tuple #[.slice A n c, .nilIface]) ∧ ¬ (t.size : Int) < ((n : Nat) : Int) ∧ Ext w w' := fun w h =>
          (points_ok t w h hbt ht2).mono fun e w' ⟨v, h1, ⟨A, n, c, hv, hn, _, _⟩, h2⟩ => ⟨A, n, c, by rw [h1, hv], by omega, h2⟩
        have htx := fun v w h => text_back s v w h hbs hs2
        have hcm := fun w h => cmp_ok s t w h hbs hbt
        have hbd := fun w h => bad_any (s ++ t) w h
        rw [sound_append hbs hbt] at hbd
        have hct := fun w h => cut_back s t w h hbs hbt (by omega)
        have hadd : Op.stringOp .add s t = pure (.string (s ++ t)) := by
          unfold Op.stringOp
          simp only
          rw [if_neg (by show ¬ ((_ : Nat) : Int) > 9223372036854775807; omega)]
        have hlt := less_cmp s.data.toList t.data.toList
        have heq := cmp_zero s.data.toList t.data.toList
        rw [← ByteArray.toList_eq, ← ByteArray.toList_eq] at hlt heq hcm
        have hst : (s.toList == t.toList) = decide (Lib.compareBytes s.toList t.toList = 0) := by
          rw [Bool.eq_iff_iff, beq_iff_eq, decide_eq_true_iff]; exact heq.symm
        have hlt2 : Op.bytesLess s.toList t.toList = decide (Lib.compareBytes s.toList t.toList < 0) := by
          rw [Bool.eq_iff_iff, decide_eq_true_iff]; exact hlt
        clear heq hlt hbs hbt
        generalize Lib.compareBytes s.toList t.toList = c at *
        generalize s ++ t = st at *
        generalize pts s = ps at *
        clear hq
        have hx1 := fun w hr => text_ok A n cap l w hlen hr (by omega) hok
        have hso := tb_sound l hok
        have hpl := fun w hT => points_okL ⟨(tb l).toArray⟩ w hT hso.1 (by have := tb_len l; show (tb l).toArray.size ≤ _; rw [List.size_toArray]; omega)
        rw [hso.2] at hpl
        have hia := ints_arg hl hok
        have hnl : (l.map Int.toNat).length ≤ 2000000 := by rw [List.length_map]; omega
        clear hso hok
        generalize (tb l).toArray = ta at *
        generalize l.map Int.toNat = ln at *
        clear hlen hl
        go_enter Tryd.func5, Tryd.ntmps5
        go_wp2_with (first
          | (go_at_call 9; with_reducible refine hs.mono ?_; rintro e w1 ⟨rfl, hy1⟩)
          | (go_at_call 14; with_reducible refine (hps _ (Utf8Tabs_below hT hy1)).mono ?_; rintro e w2 ⟨v2, rfl, hv2, hy2⟩)
          | (go_at_call 14; with_reducible refine (hpt _ (Utf8Tabs_below hT (Ext.trans hy1 hy2))).mono ?_; rintro e w3 ⟨A3, n3, c3, rfl, hn3, hy3⟩)
          | (go_at_call 15; with_reducible refine (htx v2 _ (Ints.ext hv2 hy3)).mono ?_; rintro e w4 ⟨rfl, hy4⟩)
          | (go_at_call 10; with_reducible refine (hcm _ (Utf8Tabs_below hT (Ext.trans hy1 (Ext.trans hy2 (Ext.trans hy3 hy4))))).mono ?_; rintro e w5 ⟨rfl, hy5⟩)
          | (go_at_call 16; with_reducible refine (hbd _ (Utf8Tabs_below hT (Ext.trans hy1 (Ext.trans hy2 (Ext.trans hy3 (Ext.trans hy4 hy5)))))).mono ?_; rintro e w6 ⟨rfl, hy6⟩)
          | (go_at_call 17; with_reducible refine (hct _ (Utf8Tabs_below hT (Ext.trans hy1 (Ext.trans hy2 (Ext.trans hy3 (Ext.trans hy4 (Ext.trans hy5 hy6))))))).mono ?_; rintro e w7 ⟨rfl, hy7⟩)
          | (go_at_call 15; with_reducible refine (hx1 _ (hrl.ext (Ext.trans hy1 (Ext.trans hy2 (Ext.trans hy3 (Ext.trans hy4 (Ext.trans hy5 (Ext.trans hy6 hy7)))))))).mono ?_; rintro e wa ⟨rfl, hxa⟩)
          | (go_at_call 14; with_reducible refine (hpl _ (Utf8Tabs_below hT (Ext.trans (Ext.trans hy1 (Ext.trans hy2 (Ext.trans hy3 (Ext.trans hy4 (Ext.trans hy5 (Ext.trans hy6 hy7)))))) hxa))).mono ?_; rintro e wb ⟨vb, rfl, hvb, hxb⟩)
          | (go_at_call 18; with_reducible refine (ints_same vb _ ln _ hvb (hia.ext (Ext.trans (Ext.trans hy1 (Ext.trans hy2 (Ext.trans hy3 (Ext.trans hy4 (Ext.trans hy5 (Ext.trans hy6 hy7)))))) (Ext.trans hxa hxb))) hnl).mono ?_; rintro e wc ⟨rfl, hxc⟩))
        go_ret
        exact ⟨by simp, Ext.trans (Ext.trans hy1 (Ext.trans hy2 (Ext.trans hy3 (Ext.trans hy4 (Ext.trans hy5 (Ext.trans hy6 hy7)))))) (Ext.trans hxa (Ext.trans hxb hxc))⟩
      · have hps := fun w h => points_ok s w h hbs hs2
        have hpt : ∀ w, Lib.Utf8Tabs 2 3 w → Calls Tryd.prog 14 #[.string t] w fun e w' => ∃ A n c, e = .returned (.tuple #[.slice A n c, .nilIface]) ∧ ¬ (t.size : Int) < ((n : Nat) : Int) ∧ Ext w w' := fun w h =>
          (points_ok t w h hbt ht2).mono fun e w' ⟨v, h1, ⟨A, n, c, hv, hn, _, _⟩, h2⟩ => ⟨A, n, c, by rw [h1, hv], by omega, h2⟩
        have htx := fun v w h => text_back s v w h hbs hs2
        have hcm := fun w h => cmp_ok s t w h hbs hbt
        have hbd := fun w h => bad_any (s ++ t) w h
        rw [sound_append hbs hbt] at hbd
        have hct := fun w h => cut_back s t w h hbs hbt (by omega)
        have hadd : Op.stringOp .add s t = pure (.string (s ++ t)) := by
          unfold Op.stringOp
          simp only
          rw [if_neg (by show ¬ ((_ : Nat) : Int) > 9223372036854775807; omega)]
        have hlt := less_cmp s.data.toList t.data.toList
        have heq := cmp_zero s.data.toList t.data.toList
        rw [← ByteArray.toList_eq, ← ByteArray.toList_eq] at hlt heq hcm
        have hst : (s.toList == t.toList) = decide (Lib.compareBytes s.toList t.toList = 0) := by
          rw [Bool.eq_iff_iff, beq_iff_eq, decide_eq_true_iff]; exact heq.symm
        have hlt2 : Op.bytesLess s.toList t.toList = decide (Lib.compareBytes s.toList t.toList < 0) := by
          rw [Bool.eq_iff_iff, decide_eq_true_iff]; exact hlt
        clear heq hlt hbs hbt
        generalize Lib.compareBytes s.toList t.toList = c at *
        generalize s ++ t = st at *
        generalize pts s = ps at *
        clear hq
        have hx1 := fun w hr => text_no A n cap l m w hlen hr (by omega) hm hok hbad
        clear hok hbad hlen hl
        go_enter Tryd.func5, Tryd.ntmps5
        go_wp2_with (first
          | (go_at_call 9; with_reducible refine hs.mono ?_; rintro e w1 ⟨rfl, hy1⟩)
          | (go_at_call 14; with_reducible refine (hps _ (Utf8Tabs_below hT hy1)).mono ?_; rintro e w2 ⟨v2, rfl, hv2, hy2⟩)
          | (go_at_call 14; with_reducible refine (hpt _ (Utf8Tabs_below hT (Ext.trans hy1 hy2))).mono ?_; rintro e w3 ⟨A3, n3, c3, rfl, hn3, hy3⟩)
          | (go_at_call 15; with_reducible refine (htx v2 _ (Ints.ext hv2 hy3)).mono ?_; rintro e w4 ⟨rfl, hy4⟩)
          | (go_at_call 10; with_reducible refine (hcm _ (Utf8Tabs_below hT (Ext.trans hy1 (Ext.trans hy2 (Ext.trans hy3 hy4))))).mono ?_; rintro e w5 ⟨rfl, hy5⟩)
          | (go_at_call 16; with_reducible refine (hbd _ (Utf8Tabs_below hT (Ext.trans hy1 (Ext.trans hy2 (Ext.trans hy3 (Ext.trans hy4 hy5)))))).mono ?_; rintro e w6 ⟨rfl, hy6⟩)
          | (go_at_call 17; with_reducible refine (hct _ (Utf8Tabs_below hT (Ext.trans hy1 (Ext.trans hy2 (Ext.trans hy3 (Ext.trans hy4 (Ext.trans hy5 hy6))))))).mono ?_; rintro e w7 ⟨rfl, hy7⟩)
          | (go_at_call 15; with_reducible refine (hx1 _ (hrl.ext (Ext.trans hy1 (Ext.trans hy2 (Ext.trans hy3 (Ext.trans hy4 (Ext.trans hy5 (Ext.trans hy6 hy7)))))))).mono ?_; rintro e wa ⟨ba, rfl, -, -, hxa⟩))
        go_ret
        exact ⟨by simp, Ext.trans (Ext.trans hy1 (Ext.trans hy2 (Ext.trans hy3 (Ext.trans hy4 (Ext.trans hy5 (Ext.trans hy6 hy7)))))) hxa⟩
    · rcases two_okI l with hok | ⟨m, hm, hok, hbad⟩
      · have hps := fun w h => points_ok s w h hbs hs2
        have hpt := fun w h => points_no t q w h hbt
        clear hbs hbt
        have hx1 := fun w hr => text_ok A n cap l w hlen hr (by omega) hok
        have hso := tb_sound l hok
        have hpl := fun w hT => points_okL ⟨(tb l).toArray⟩ w hT hso.1 (by have := tb_len l; show (tb l).toArray.size ≤ _; rw [List.size_toArray]; omega)
        rw [hso.2] at hpl
        have hia := ints_arg hl hok
        have hnl : (l.map Int.toNat).length ≤ 2000000 := by rw [List.length_map]; omega
        clear hso hok
        generalize (tb l).toArray = ta at *
        generalize l.map Int.toNat = ln at *
        clear hlen hl
        go_enter Tryd.func5, Tryd.ntmps5
        go_wp2_with (first
          | (go_at_call 9; with_reducible refine hs.mono ?_; rintro e w1 ⟨rfl, hy1⟩)
          | (go_at_call 14; with_reducible refine (hps _ (Utf8Tabs_below hT hy1)).mono ?_; rintro e w2 ⟨v2, rfl, -, hy2⟩)
          | (go_at_call 14; with_reducible refine (hpt _ (Utf8Tabs_below hT (Ext.trans hy1 hy2))).mono ?_; rintro e w3 ⟨b3, rfl, -, -, -, hy3⟩)
          | (go_at_call 15; with_reducible refine (hx1 _ (hrl.ext (Ext.trans hy1 (Ext.trans hy2 hy3)))).mono ?_; rintro e wa ⟨rfl, hxa⟩)
          | (go_at_call 14; with_reducible refine (hpl _ (Utf8Tabs_below hT (Ext.trans (Ext.trans hy1 (Ext.trans hy2 hy3)) hxa))).mono ?_; rintro e wb ⟨vb, rfl, hvb, hxb⟩)
          | (go_at_call 18; with_reducible refine (ints_same vb _ ln _ hvb (hia.ext (Ext.trans (Ext.trans hy1 (Ext.trans hy2 hy3)) (Ext.trans hxa hxb))) hnl).mono ?_; rintro e wc ⟨rfl, hxc⟩))
        go_ret
        exact ⟨by simp, Ext.trans (Ext.trans hy1 (Ext.trans hy2 hy3)) (Ext.trans hxa (Ext.trans hxb hxc))⟩
      · have hps := fun w h => points_ok s w h hbs hs2
        have hpt := fun w h => points_no t q w h hbt
        clear hbs hbt
        have hx1 := fun w hr => text_no A n cap l m w hlen hr (by omega) hm hok hbad
        clear hok hbad hlen hl
        go_enter Tryd.func5, Tryd.ntmps5
        go_wp2_with (first
          | (go_at_call 9; with_reducible refine hs.mono ?_; rintro e w1 ⟨rfl, hy1⟩)
          | (go_at_call 14; with_reducible refine (hps _ (Utf8Tabs_below hT hy1)).mono ?_; rintro e w2 ⟨v2, rfl, -, hy2⟩)
          | (go_at_call 14; with_reducible refine (hpt _ (Utf8Tabs_below hT (Ext.trans hy1 hy2))).mono ?_; rintro e w3 ⟨b3, rfl, -, -, -, hy3⟩)
          | (go_at_call 15; with_reducible refine (hx1 _ (hrl.ext (Ext.trans hy1 (Ext.trans hy2 hy3)))).mono ?_; rintro e wa ⟨ba, rfl, -, -, hxa⟩))
        go_ret
        exact ⟨by simp, Ext.trans (Ext.trans hy1 (Ext.trans hy2 hy3)) hxa⟩
  · rcases two_okI l with hok | ⟨m, hm, hok, hbad⟩
    · have hps := fun w h => points_no s p w h hbs
      have hpt : ∀ w, Lib.Utf8Tabs 2 3 w → Calls Tryd.prog 14 #[.string t] w fun e w' => ∃ v x, e = .returned (.tuple #[v, x]) ∧ Ext w w' := fun w h => by
        rcases badAt_two t with hbt | ⟨q, hbt, -⟩
        · exact (points_ok t w h hbt ht2).mono fun e w' ⟨v, h1, _, h2⟩ => ⟨v, _, h1, h2⟩
        · exact (points_no t q w h hbt).mono fun e w' ⟨b, h1, _, _, _, h2⟩ => ⟨_, _, h1, h2⟩
      clear hbs
      have hx1 := fun w hr => text_ok A n cap l w hlen hr (by omega) hok
      have hso := tb_sound l hok
      have hpl := fun w hT => points_okL ⟨(tb l).toArray⟩ w hT hso.1 (by have := tb_len l; show (tb l).toArray.size ≤ _; rw [List.size_toArray]; omega)
      rw [hso.2] at hpl
      have hia := ints_arg hl hok
      have hnl : (l.map Int.toNat).length ≤ 2000000 := by rw [List.length_map]; omega
      clear hso hok
      generalize (tb l).toArray = ta at *
      generalize l.map Int.toNat = ln at *
      clear hlen hl
      go_enter Tryd.func5, Tryd.ntmps5
      go_wp2_with (first
        | (go_at_call 9; with_reducible refine hs.mono ?_; rintro e w1 ⟨rfl, hy1⟩)
        | (go_at_call 14; with_reducible refine (hps _ (Utf8Tabs_below hT hy1)).mono ?_; rintro e w2 ⟨b2, rfl, -, -, -, hy2⟩)
        | (go_at_call 14; with_reducible refine (hpt _ (Utf8Tabs_below hT (Ext.trans hy1 hy2))).mono ?_; rintro e w3 ⟨v3, e3, rfl, hy3⟩)
        | (go_at_call 15; with_reducible refine (hx1 _ (hrl.ext (Ext.trans hy1 (Ext.trans hy2 hy3)))).mono ?_; rintro e wa ⟨rfl, hxa⟩)
        | (go_at_call 14; with_reducible refine (hpl _ (Utf8Tabs_below hT (Ext.trans (Ext.trans hy1 (Ext.trans hy2 hy3)) hxa))).mono ?_; rintro e wb ⟨vb, rfl, hvb, hxb⟩)
        | (go_at_call 18; with_reducible refine (ints_same vb _ ln _ hvb (hia.ext (Ext.trans (Ext.trans hy1 (Ext.trans hy2 hy3)) (Ext.trans hxa hxb))) hnl).mono ?_; rintro e wc ⟨rfl, hxc⟩))
      go_ret
      exact ⟨by simp, Ext.trans (Ext.trans hy1 (Ext.trans hy2 hy3)) (Ext.trans hxa (Ext.trans hxb hxc))⟩
    · have hps := fun w h => points_no s p w h hbs
      have hpt : ∀ w, Lib.Utf8Tabs 2 3 w → Calls Tryd.prog 14 #[.string t] w fun e w' => ∃ v x, e = .returned (.tuple #[v, x]) ∧ Ext w w' := fun w h => by
        rcases badAt_two t with hbt | ⟨q, hbt, -⟩
        · exact (points_ok t w h hbt ht2).mono fun e w' ⟨v, h1, _, h2⟩ => ⟨v, _, h1, h2⟩
        · exact (points_no t q w h hbt).mono fun e w' ⟨b, h1, _, _, _, h2⟩ => ⟨_, _, h1, h2⟩
      clear hbs
      have hx1 := fun w hr => text_no A n cap l m w hlen hr (by omega) hm hok hbad
      clear hok hbad hlen hl
      go_enter Tryd.func5, Tryd.ntmps5
      go_wp2_with (first
        | (go_at_call 9; with_reducible refine hs.mono ?_; rintro e w1 ⟨rfl, hy1⟩)
        | (go_at_call 14; with_reducible refine (hps _ (Utf8Tabs_below hT hy1)).mono ?_; rintro e w2 ⟨b2, rfl, -, -, -, hy2⟩)
        | (go_at_call 14; with_reducible refine (hpt _ (Utf8Tabs_below hT (Ext.trans hy1 hy2))).mono ?_; rintro e w3 ⟨v3, e3, rfl, hy3⟩)
        | (go_at_call 15; with_reducible refine (hx1 _ (hrl.ext (Ext.trans hy1 (Ext.trans hy2 hy3)))).mono ?_; rintro e wa ⟨ba, rfl, -, -, hxa⟩))
      go_ret
      exact ⟨by simp, Ext.trans (Ext.trans hy1 (Ext.trans hy2 hy3)) hxa⟩
theorem utfback_w (s t : ByteArray) (A : Option Addr) (n cap : Nat) (l : List Int) (w : World) (hT : Lib.Utf8Tabs 2 3 w) (hl : ArgI w A n cap l) (bnd : s.size + t.size + cap ≤ 1048576) :
    Calls Tryd.prog 5 #[.string s, .string t, .slice A n cap] w fun e w' => e = .returned (.bool true) ∧ Ext w w' := utfback_any s t A n cap l w hT hl bnd
end Go.Proofs.YthdniboajbhhiaaDoor
