/-
  The text of some characters, and the statement UtfTexts.
-/
import Derived.Test.YthdniboajbhhiaaDoorUtfL
import Derived.Test.YthdniboajbhhiaaDoorArgsI
set_option linter.unusedSimpArgs false
set_option linter.unusedVariables false
namespace Go.Cv.Utf
open Go.RowKit Go.Cv.Dig
/-- Is a number a character's? -/
def okI (x : Int) : Prop := 0 ≤ x ∧ x ≤ 1114111 ∧ (x < 55296 ∨ 57343 < x)
instance (x : Int) : Decidable (okI x) := inferInstanceAs (Decidable (_ ∧ _ ∧ _))
theorem two_okI : ∀ l : List Int, (∀ x ∈ l, okI x) ∨ ∃ m : Nat, ∃ h : m < l.length, (∀ k, (hk : k < m) → okI (l[k]'(by omega))) ∧ ¬ okI l[m]
  | [] => .inl fun _ h => by cases h
  | x :: l => by
    by_cases hx : okI x
    · rcases two_okI l with h | ⟨m, h, h1, h2⟩
      · exact .inl fun y hy => by
          rcases List.mem_cons.1 hy with rfl | hy
          · exact hx
          · exact h y hy
      · refine .inr ⟨m + 1, by simp; omega, fun k hk => ?_, h2⟩
        cases k with
        | zero => exact hx
        | succ k => exact h1 k (by omega)
    · exact .inr ⟨0, by simp, fun k hk => by omega, hx⟩
end Go.Cv.Utf
namespace Go.Proofs.YthdniboajbhhiaaDoor
open Go.RowKit Go.Cv Go.Cv.Utf Go.Cv.Dig

/-- The bytes of some characters. -/
def tb (l : List Int) : List UInt8 := l.flatMap fun x => encU x.toNat
theorem tb_take (l : List Int) (i : Nat) (h : i < l.length) : tb (l.take (i + 1)) = tb (l.take i) ++ encU (l[i]).toNat := by
  unfold tb
  rw [List.take_succ_eq_append_getElem h, List.flatMap_append]
  simp
theorem blen_le (p : Nat) : blen p ≤ 4 := by unfold blen; repeat' split
                                             all_goals omega
theorem tb_len (l : List Int) : (tb l).length ≤ 4 * l.length := by
  induction l with
  | nil => simp [tb]
  | cons x l ih =>
    have : tb (x :: l) = encU x.toNat ++ tb l := by simp [tb]
    rw [this, List.length_append, encU_len, List.length_cons]
    have := blen_le x.toNat
    omega
theorem n8u (z : Int) (h : 0 ≤ z ∧ z < 256) : ((u8 z).toNat : Int) = z := n8_u8_in h
theorem n8add (c : UInt8) (z : Int) (h : 0 ≤ z ∧ z + (c.toNat : Int) < 256) : ((c + u8 z).toNat : Int) = (c.toNat : Int) + z := by
  have h1 := n8u z (by omega)
  rw [UInt8.toNat_add]
  omega
theorem cells_encU (x : Int) (h : okI x) : Lib.runeCells x = (encU x.toNat).map bv := by
  obtain ⟨h0, h1, h2⟩ := h
  have e : ((x.toNat : Nat) : Int) = x := by omega
  unfold encU Lib.runeCells
  rw [e]
  rcases (by omega : x < 128 ∨ (128 ≤ x ∧ x < 2048) ∨ (2048 ≤ x ∧ x < 65536) ∨ 65536 ≤ x) with g | ⟨g1, g⟩ | ⟨g1, g⟩ | g
  · rw [Lib.encodeRuneZ_one h0 (by omega), if_pos (by omega)]
    simp only [List.map_cons, List.map_nil]
    show [_] = [Value.int .u8 ((u8 x).toNat : Int)]
    rw [n8u x (by omega)]
  · rw [Lib.encodeRuneZ_two g1 (by omega), if_neg (by omega), if_pos (by omega)]
    simp only [List.map_cons, List.map_nil]
    show [_, _] = [Value.int .u8 ((192 + u8 (x / 64)).toNat : Int), Value.int .u8 ((128 + u8 (x % 64)).toNat : Int)]
    rw [n8add 192 _ (by show _ ∧ _ + (192 : Int) < 256; omega), n8add 128 _ (by show _ ∧ _ + (128 : Int) < 256; omega)]; rfl
  · rw [Lib.encodeRuneZ_three (by omega), if_neg (by omega), if_neg (by omega), if_pos (by omega)]
    simp only [List.map_cons, List.map_nil]
    show [_, _, _] = [Value.int .u8 ((224 + u8 (x / 4096)).toNat : Int), Value.int .u8 ((128 + u8 (x / 64 % 64)).toNat : Int), Value.int .u8 ((128 + u8 (x % 64)).toNat : Int)]
    rw [n8add 224 _ (by show _ ∧ _ + (224 : Int) < 256; omega), n8add 128 _ (by show _ ∧ _ + (128 : Int) < 256; omega), n8add 128 _ (by show _ ∧ _ + (128 : Int) < 256; omega)]; rfl
  · rw [Lib.encodeRuneZ_four g h1, if_neg (by omega), if_neg (by omega), if_neg (by omega)]
    simp only [List.map_cons, List.map_nil]
    show [_, _, _, _] = [Value.int .u8 ((240 + u8 (x / 262144)).toNat : Int), Value.int .u8 ((128 + u8 (x / 4096 % 64)).toNat : Int), Value.int .u8 ((128 + u8 (x / 64 % 64)).toNat : Int), Value.int .u8 ((128 + u8 (x % 64)).toNat : Int)]
    rw [n8add 240 _ (by show _ ∧ _ + (240 : Int) < 256; omega), n8add 128 _ (by show _ ∧ _ + (128 : Int) < 256; omega), n8add 128 _ (by show _ ∧ _ + (128 : Int) < 256; omega), n8add 128 _ (by show _ ∧ _ + (128 : Int) < 256; omega)]; rfl
theorem valid_ok (x : Int) (h : okI x) : Lib.validRune x = true := by
  obtain ⟨h0, h1, h2⟩ := h
  unfold Lib.validRune
  simp
  omega
theorem valid_no (x : Int) (h : ¬ okI x) (h0 : 0 ≤ x) (h1 : x ≤ 1114111) : Lib.validRune x = false := by
  unfold okI at h
  unfold Lib.validRune
  simp
  omega
/-- The builder at the start, empty. -/
theorem bld_start (w : World) : Bld (w.alloc (.cells #[.pointer none, .slice none 0 0] 55)) w.heap.size w.heap.size [] := by
  refine .inl ⟨Nat.le_refl _, .slice none 0 0, ?_, ⟨rfl, .inl ⟨rfl, rfl⟩⟩, by simp [Value.ownBlock]⟩
  show (w.heap.push _)[w.heap.size]? = _
  simp
/-- What a builder holds: the characters' bytes. -/
def BldT (w : World) (b : Nat) (l : List Int) (i : Nat) : Prop := Bld w b b (Lib.byteCells (tb (l.take i)))
theorem BldT.start (w : World) (l : List Int) : BldT (w.alloc (.cells #[.pointer none, .slice none 0 0] 55)) w.heap.size l 0 := bld_start w
theorem writept (b : Nat) (l : List Int) (i : Nat) (w : World) (hi : i < l.length) (hok : okI l[i]) (h : BldT w b l i) (hl : l.length ≤ 2000000) (hb : b ≤ w.heap.size) :
    Calls Tryd.prog 26 #[.pointer (some ⟨b, 0, none⟩), .int .i32 l[i]] w fun e w' => ∃ z, e = .returned (.tuple #[.int .i64 z, .nilIface]) ∧ BldT w' b l (i + 1) ∧ Below b w w' := by
  have hlen := tb_len (l.take i)
  rw [List.length_take] at hlen
  refine (writerune b b _ l[i] (by have := hok.1; omega) (by have := hok.2.1; omega) w h (by rw [Lib.byteCells_length]; omega) hb).mono ?_
  rintro e w' ⟨z, rfl, h1, h2⟩
  refine ⟨z, rfl, ?_, h2⟩
  unfold BldT
  rw [tb_take l i hi]
  rw [cells_encU _ hok] at h1
  have e : Lib.byteCells (tb (l.take i) ++ encU (l[i]).toNat) = Lib.byteCells (tb (l.take i)) ++ (encU (l[i]).toNat).map bv := by
    unfold Lib.byteCells; rw [List.map_append]; rfl
  rw [e]
  exact h1

set_option maxHeartbeats 4000000 in
theorem text_ok (A : Option Addr) (n cap : Nat) (l : List Int) (w : World) (hn : l.length = n) (hr : Rd w A (l.map (Value.int .i64))) (hl : n ≤ 2000000) (hok : ∀ x ∈ l, okI x) :
    Calls Tryd.prog 15 #[.slice A n cap] w fun e w' => e = .returned (.tuple #[.string ⟨(tb l).toArray⟩, .nilIface]) ∧ Ext w w' := by
  have HN := Lib.hid hn
  go_enter Tryd.func15, Tryd.ntmps15
  go_wp2
  go_loopw [9] (fun t wr => ∃ i : Nat, i ≤ n ∧ t = .int .i64 i ∧ BldT wr w.heap.size l i ∧ Ext w wr) (fun t _ => n - (intOf t).toNat)
  case atStart => exact ⟨0, by omega, rfl, BldT.start w l, ext_alloc _ _⟩
  case round =>
    obtain ⟨i, hin, rfl, hB, hE⟩ := hrel
    by_cases h1 : i < n
    · have h1' : (i : Int) < (n : Int) := by omega
      obtain ⟨ad, rfl, hcell⟩ := (hr.ext hE).at_ (k := i) (by rw [List.length_map, HN.out]; exact h1)
      rw [List.getElem_map] at hcell
      have hx := hok _ (List.getElem_mem (by rw [HN.out]; exact h1 : i < l.length))
      have hwr := writept w.heap.size l i wr (by rw [HN.out]; exact h1) hx hB (by rw [HN.out]; exact hl) hE.size
      have hv := valid_ok _ hx
      have hvr := Tryd.utf8_ValidRune (l[i]'(by rw [HN.out]; exact h1))
      rw [hv] at hvr
      obtain ⟨x0, x1, -⟩ := hx
      clear hv hB hok
      generalize l[i]'(by rw [HN.out]; exact h1) = x at *
      have hw : IntKind.i32.wrap x = x := IntWalk.i32_in _ (by omega)
      have x0' : ¬ x < 0 := by omega
      have x1' : ¬ 1114111 < x := by omega
      clear hn
      go_wp2_with (first
        | (go_at_call 25; with_reducible refine (hvr _).mono ?_; rintro e w2 ⟨rfl, rfl⟩)
        | (go_at_call 26; with_reducible refine hwr.mono ?_; rintro e w3 ⟨z, rfl, hB3, hb3⟩))
      exact ⟨⟨i + 1, by omega, by go_num, hB3, Below.trans hE hb3⟩, by simp [intOf]; omega⟩
    · obtain rfl : i = n := by omega
      have hst := bldstring w.heap.size w.heap.size (tb l) wr (by unfold BldT at hB; rwa [List.take_of_length_le (by omega)] at hB) hE.size
      clear hn
      go_wp2_with (go_at_call 27; with_reducible refine hst.mono ?_; rintro e w3 ⟨rfl, hb3⟩)
      go_ret2
      exact ⟨rfl, Below.trans hE hb3⟩
set_option maxHeartbeats 4000000 in
theorem text_no (A : Option Addr) (n cap : Nat) (l : List Int) (m : Nat) (w : World) (hn : l.length = n) (hr : Rd w A (l.map (Value.int .i64))) (hl : n ≤ 2000000) (hm : m < l.length) (hok : ∀ k, (hk : k < m) → okI (l[k]'(by omega))) (hbad : ¬ okI l[m]) :
    Calls Tryd.prog 15 #[.slice A n cap] w fun e w' => ∃ b, e = .returned (.tuple #[.string ⟨#[]⟩, .iface 57 (.pointer (some ⟨b, 0, none⟩))]) ∧ w'.cell? ⟨b, 0, none⟩ = some (.int .i64 (m : Int)) ∧ w'.cell? ⟨b, 1, none⟩ = some (.iface 28 (.int .i64 7)) ∧ Ext w w' := by
  have HN := Lib.hid hn
  have hmn : m < n := by omega
  go_enter Tryd.func15, Tryd.ntmps15
  go_wp2
  go_loopw [9] (fun t wr => ∃ i : Nat, i ≤ m ∧ t = .int .i64 i ∧ BldT wr w.heap.size l i ∧ Ext w wr) (fun t _ => n - (intOf t).toNat)
  case atStart => exact ⟨0, by omega, rfl, BldT.start w l, ext_alloc _ _⟩
  case round =>
    obtain ⟨i, hin, rfl, hB, hE⟩ := hrel
    have h1' : (i : Int) < (n : Int) := by omega
    obtain ⟨ad, rfl, hcell⟩ := (hr.ext hE).at_ (k := i) (by rw [List.length_map, HN.out]; omega)
    rw [List.getElem_map] at hcell
    by_cases h1 : i < m
    · have hx := hok i h1
      have hwr := writept w.heap.size l i wr (by rw [HN.out]; omega) hx hB (by rw [HN.out]; exact hl) hE.size
      have hv := valid_ok _ hx
      have hvr := Tryd.utf8_ValidRune (l[i]'(by rw [HN.out]; omega))
      rw [hv] at hvr
      obtain ⟨x0, x1, -⟩ := hx
      clear hv hB hok hbad
      generalize l[i]'(by rw [HN.out]; omega) = x at *
      have hw : IntKind.i32.wrap x = x := IntWalk.i32_in _ (by omega)
      have x0' : ¬ x < 0 := by omega
      have x1' : ¬ 1114111 < x := by omega
      clear hn
      go_wp2_with (first
        | (go_at_call 25; with_reducible refine (hvr _).mono ?_; rintro e w2 ⟨rfl, rfl⟩)
        | (go_at_call 26; with_reducible refine hwr.mono ?_; rintro e w3 ⟨z, rfl, hB3, hb3⟩))
      exact ⟨⟨i + 1, by omega, by go_num, hB3, Below.trans hE hb3⟩, by simp [intOf]; omega⟩
    · obtain rfl : i = m := by omega
      have hv := valid_no _ hbad
      have hvr := Tryd.utf8_ValidRune (l[i]'hm)
      clear hok hbad hB hn
      generalize l[i]'hm = x at *
      rcases (by omega : x < 0 ∨ (¬ x < 0 ∧ 1114111 < x) ∨ (¬ x < 0 ∧ ¬ 1114111 < x)) with g | ⟨g1, g⟩ | ⟨g1, g⟩
      · clear hv hvr
        go_wp2
        go_ret2
        exact ⟨_, rfl, by simp [go_sem], by simp [go_sem], hE.trans (ext_alloc _ _)⟩
      · clear hv hvr
        go_wp2
        go_ret2
        exact ⟨_, rfl, by simp [go_sem], by simp [go_sem], hE.trans (ext_alloc _ _)⟩
      · have hw : IntKind.i32.wrap x = x := IntWalk.i32_in _ (by omega)
        rw [hv (by omega) (by omega)] at hvr
        clear hv
        go_wp2_with (go_at_call 25; with_reducible refine (hvr _).mono ?_; rintro e w2 ⟨rfl, rfl⟩)
        go_ret2
        exact ⟨_, rfl, by simp [go_sem], by simp [go_sem], hE.trans (ext_alloc _ _)⟩

theorem u8rowU : RowT Tryd.prog 53 5 1 := RowT.of (z := .int .u8 0) Tryd.underlying53 (by kernel_rfl) rfl
/-- What the answer's text holds. -/
def OwnT (w : World) (base : Nat) (v : Value) (l : List Int) (i : Nat) : Prop := w.ownsRow base 5 1 v (tb (l.take i)).length ((tb (l.take i)).map bv)
set_option maxHeartbeats 4000000 in
theorem reftext_ok (A : Option Addr) (n cap : Nat) (l : List Int) (w : World) (hn : l.length = n) (hr : Rd w A (l.map (Value.int .i64))) (hl : n ≤ 2000000) (hok : ∀ x ∈ l, okI x) :
    Calls Tryd.prog 22 #[.slice A n cap] w fun e w' => e = .returned (.tuple #[.string ⟨(tb l).toArray⟩, .int .i64 (-1)]) ∧ Ext w w' := by
  have HN := Lib.hid hn
  go_enter Tryd.func22, Tryd.ntmps22
  go_wp2
  go_loopw [4, 5] (fun v t wr => ∃ i : Nat, i ≤ n ∧ t = .int .i64 i ∧ OwnT wr w.heap.size v l i ∧ Ext w wr) (fun _ t _ => n - (intOf t).toNat)
  case atStart => exact ⟨0, by omega, rfl, World.ownsRow_nil _ _ _ 1, Ext.refl _⟩
  case round =>
    obtain ⟨i, hin, rfl, hB, hE⟩ := hrel
    by_cases h1 : i < n
    · have h1' : (i : Int) < (n : Int) := by omega
      obtain ⟨ad, rfl, hcell⟩ := (hr.ext hE).at_ (k := i) (by rw [List.length_map, HN.out]; exact h1)
      rw [List.getElem_map] at hcell
      have hx := hok _ (List.getElem_mem (by rw [HN.out]; exact h1 : i < l.length))
      have htk := tb_take l i (by rw [HN.out]; exact h1)
      have hbl := tb_len (l.take i)
      rw [List.length_take] at hbl
      have hip := isPoint_any (l[i]'(by rw [HN.out]; exact h1))
      rw [decide_eq_true (show _ ∧ _ from hx)] at hip
      obtain ⟨p, hp⟩ : ∃ p : Nat, l[i]'(by rw [HN.out]; exact h1) = (p : Int) := ⟨_, (Int.toNat_of_nonneg hx.1).symm⟩
      have hp1 : p ≤ 1114111 := by have := hx.2.1; omega
      rw [hp] at hcell hip htk
      rw [Int.toNat_natCast] at htk
      have hby := fun w => bytes_pt p w (by omega)
      have hel := encU_len p
      have hel2 := blen_le p
      unfold OwnT at hB
      generalize hL : (tb (l.take i)).length = q at *
      have hB2 := own_form hB
      obtain ⟨C, cc, rfl, hnc, hcm, hrd, -⟩ := hB2
      have htk2 := Lib.hid htk
      have hL2 := Lib.hid hL
      have hel3 := Lib.hid hel
      have hbn : blen p ≤ 4 := hel2
      clear hx hok hp hn htk hL hel
      generalize blen p = k at *
      go_wp2_with (first
        | (go_at_call 33; with_reducible refine (hip _).mono ?_; rintro e w2 ⟨rfl, rfl⟩)
        | (go_at_call 34; with_reducible refine (hby _).mono ?_; rintro e w3 ⟨A3, rfl, hr3, hx3⟩)
        | (at_builtin; refine wpList_appb rfl (.tmp 21) (.tmp 26) 53 5 rfl u8rowU w.heap.size _ q _ rfl (own_ext hB hx3) (some A3) k k (encU p) rfl hel3.out hr3 (by omega) (hE.trans hx3).size ?_; intro A4 c4 w4 ho4 hc4 hm4 hr4 hE4; have hx4 := hE4 w (hE.trans hx3) (Nat.le_refl _); clear hE4))
      refine ⟨⟨i + 1, by omega, by go_num, ?_, hx4⟩, by simp [intOf]; omega⟩
      unfold OwnT
      rw [htk2.out, List.length_append, hL2.out, hel3.out]
      exact ho4
    · obtain rfl : i = n := by omega
      unfold OwnT at hB
      rw [List.take_of_length_le (by omega)] at hB
      obtain ⟨C, cc, rfl, hnc, hcm, hrd, -⟩ := own_form hB
      have hcv := run_convert_rd (P := Tryd.prog) wr 53 9 5 Tryd.underlying53 Tryd.underlying5 Tryd.underlying9 C _ cc (tb l) rfl hrd
      clear hn hB hrd
      generalize (tb l).length = q at *
      go_wp2
      go_ret2
      exact ⟨rfl, hE⟩
set_option maxHeartbeats 4000000 in
theorem reftext_no (A : Option Addr) (n cap : Nat) (l : List Int) (m : Nat) (w : World) (hn : l.length = n) (hr : Rd w A (l.map (Value.int .i64))) (hl : n ≤ 2000000) (hm : m < l.length) (hok : ∀ k, (hk : k < m) → okI (l[k]'(by omega))) (hbad : ¬ okI l[m]) :
    Calls Tryd.prog 22 #[.slice A n cap] w fun e w' => e = .returned (.tuple #[.string ⟨#[]⟩, .int .i64 (m : Int)]) ∧ Ext w w' := by
  have HN := Lib.hid hn
  have hmn : m < n := by omega
  go_enter Tryd.func22, Tryd.ntmps22
  go_wp2
  go_loopw [4, 5] (fun v t wr => ∃ i : Nat, i ≤ m ∧ t = .int .i64 i ∧ OwnT wr w.heap.size v l i ∧ Ext w wr) (fun _ t _ => n - (intOf t).toNat)
  case atStart => exact ⟨0, by omega, rfl, World.ownsRow_nil _ _ _ 1, Ext.refl _⟩
  case round =>
    obtain ⟨i, hin, rfl, hB, hE⟩ := hrel
    have h1' : (i : Int) < (n : Int) := by omega
    obtain ⟨ad, rfl, hcell⟩ := (hr.ext hE).at_ (k := i) (by rw [List.length_map, HN.out]; omega)
    rw [List.getElem_map] at hcell
    by_cases h1 : i < m
    · have hx := hok i h1
      have htk := tb_take l i (by rw [HN.out]; omega)
      have hbl := tb_len (l.take i)
      rw [List.length_take] at hbl
      have hip := isPoint_any (l[i]'(by rw [HN.out]; omega))
      rw [decide_eq_true (show _ ∧ _ from hx)] at hip
      obtain ⟨p, hp⟩ : ∃ p : Nat, l[i]'(by rw [HN.out]; omega) = (p : Int) := ⟨_, (Int.toNat_of_nonneg hx.1).symm⟩
      have hp1 : p ≤ 1114111 := by have := hx.2.1; omega
      rw [hp] at hcell hip htk
      rw [Int.toNat_natCast] at htk
      have hby := fun w => bytes_pt p w (by omega)
      have hel := encU_len p
      have hel2 := blen_le p
      unfold OwnT at hB
      generalize hL : (tb (l.take i)).length = q at *
      have hB2 := own_form hB
      obtain ⟨C, cc, rfl, hnc, hcm, hrd, -⟩ := hB2
      have htk2 := Lib.hid htk
      have hL2 := Lib.hid hL
      have hel3 := Lib.hid hel
      have hbn : blen p ≤ 4 := hel2
      clear hx hok hp hn htk hL hel hbad
      generalize blen p = k at *
      go_wp2_with (first
        | (go_at_call 33; with_reducible refine (hip _).mono ?_; rintro e w2 ⟨rfl, rfl⟩)
        | (go_at_call 34; with_reducible refine (hby _).mono ?_; rintro e w3 ⟨A3, rfl, hr3, hx3⟩)
        | (at_builtin; refine wpList_appb rfl (.tmp 21) (.tmp 26) 53 5 rfl u8rowU w.heap.size _ q _ rfl (own_ext hB hx3) (some A3) k k (encU p) rfl hel3.out hr3 (by omega) (hE.trans hx3).size ?_; intro A4 c4 w4 ho4 hc4 hm4 hr4 hE4; have hx4 := hE4 w (hE.trans hx3) (Nat.le_refl _); clear hE4))
      refine ⟨⟨i + 1, by omega, by go_num, ?_, hx4⟩, by simp [intOf]; omega⟩
      unfold OwnT
      rw [htk2.out, List.length_append, hL2.out, hel3.out]
      exact ho4
    · obtain rfl : i = m := by omega
      have hip := isPoint_any (l[i]'hm)
      rw [decide_eq_false (show ¬ (_ ∧ _) from hbad)] at hip
      clear hok hbad hB hn
      generalize l[i]'hm = x at *
      go_wp2_with (go_at_call 33; with_reducible refine (hip _).mono ?_; rintro e w2 ⟨rfl, rfl⟩)
      go_ret2
      exact ⟨rfl, hE⟩

set_option maxHeartbeats 8000000 in
theorem utftexts_any (A : Option Addr) (n cap : Nat) (l : List Int) (w : World) (hT : Lib.Utf8Tabs 2 3 w) (hg : w.cell? ⟨0, 0, none⟩ = some (.iface 96 (.agg #[.pointer (some ⟨4, 24, none⟩)]))) (hl : ArgI w A n cap l) (bnd : cap ≤ 1048576) :
    Calls Tryd.prog 8 #[.slice A n cap] w fun e w' => e = .returned (.bool true) ∧ Ext w w' := by
  have hs := shown_any w hT
  have hle := hl.le
  rcases two_okI l with hok | ⟨m, hm, hok, hbad⟩
  · have h1 := fun w hr => text_ok A n cap l w hl.len hr (by omega) hok
    have h2 := fun w hr => reftext_ok A n cap l w hl.len hr (by omega) hok
    have hr := hl.rd
    clear hok hl
    generalize (tb l) = t at *
    go_enter Tryd.func8, Tryd.ntmps8
    go_wp2_with (first
      | (go_at_call 9; with_reducible refine hs.mono ?_; rintro e w1 ⟨rfl, hx1⟩)
      | (go_at_call 15; with_reducible refine (h1 _ (hr.ext hx1)).mono ?_; rintro e w2 ⟨rfl, hx2⟩)
      | (go_at_call 22; with_reducible refine (h2 _ (hr.ext (hx1.trans hx2))).mono ?_; rintro e w3 ⟨rfl, hx3⟩))
    go_ret
    exact ⟨by simp, hx1.trans (hx2.trans hx3)⟩
  · have h1 := fun w hr => text_no A n cap l m w hl.len hr (by omega) hm hok hbad
    have h2 := fun w hr => reftext_no A n cap l m w hl.len hr (by omega) hm hok hbad
    have hr := hl.rd
    clear hok hl
    go_enter Tryd.func8, Tryd.ntmps8
    go_wp2_with (first
      | (go_at_call 9; with_reducible refine hs.mono ?_; rintro e w1 ⟨rfl, hx1⟩)
      | (go_at_call 15; with_reducible refine (h1 _ (hr.ext hx1)).mono ?_; rintro e w2 ⟨b, rfl, hc0, hc1, hx2⟩)
      | (go_at_call 22; with_reducible refine (h2 _ (hr.ext (hx1.trans hx2))).mono ?_; rintro e w3 ⟨rfl, hx3⟩)
      | (go_at_call 20; with_reducible refine (isat_any b m 7 _ (Ext.cell (hx1.trans (hx2.trans hx3)) hg) (Ext.cell hx3 hc0) (Ext.cell hx3 hc1)).mono ?_; rintro e w5 ⟨rfl, hx5⟩))
    go_ret
    exact ⟨rfl, hx1.trans (hx2.trans (hx3.trans hx5))⟩
theorem utftexts_w (A : Option Addr) (n cap : Nat) (l : List Int) (w : World) (hT : Lib.Utf8Tabs 2 3 w ∧ w.cell? ⟨0, 0, none⟩ = some (.iface 96 (.agg #[.pointer (some ⟨4, 24, none⟩)]))) (hl : ArgI w A n cap l) (bnd : cap ≤ 1048576) :
    Calls Tryd.prog 8 #[.slice A n cap] w fun e w' => e = .returned (.bool true) ∧ Ext w w' := utftexts_any A n cap l w hT.1 hT.2 hl bnd
end Go.Proofs.YthdniboajbhhiaaDoor
