/-
  Walks of the layer utf: sound texts, comparing, pairs.
-/
import Derived.Test.YthdniboajbhhiaaDoorUtfA
import Derived.Test.YthdniboajbhhiaaDoorDig
import Derived.WalkSmall
set_option linter.unusedSimpArgs false
set_option linter.unusedVariables false
namespace Go.Cv.Utf
open Go.RowKit Go.Cv.Dig
theorem badFrom_two (s : ByteArray) : ∀ f pos, badFrom s f pos = -1 ∨ ∃ p : Nat, badFrom s f pos = (p : Int) ∧ p < s.size
  | 0, _ => .inl rfl
  | f + 1, pos => by
    simp only [badFrom]
    split
    · rename_i h
      split
      · exact .inr ⟨pos, rfl, h⟩
      · exact badFrom_two s f _
    · exact .inl rfl
theorem badAt_two (s : ByteArray) : badAt s = -1 ∨ ∃ p : Nat, badAt s = (p : Int) ∧ p < s.size := badFrom_two s _ _
theorem ItIs.toExt {w wr : World} {s : ByteArray} {pos : Nat} (h : ItIs w wr s pos) : Ext (w.iter s pos) wr := by
  have hx := h.ext
  have hs : (w.iter s pos).heap.size = w.heap.size + 1 := by show (w.heap.push _).size = _; simp
  have hlt := (Array.getElem?_eq_some_iff.1 h.it).1
  refine ⟨hx.1, hx.2, hx.3, by omega, fun i hi => ?_⟩
  by_cases hi2 : i < w.heap.size
  · rw [hx.block i hi2]
    show _ = (w.heap.push _)[i]?
    rw [Array.getElem?_push, if_neg (by omega)]
  · obtain rfl : i = w.heap.size := by omega
    rw [h.it, World.iter_heap]
theorem ItIs.ofExt {w wr : World} {s : ByteArray} {pos : Nat} (h : Ext (w.iter s pos) wr) : ItIs w wr s pos :=
  ⟨(h.block _ (by show _ < (w.heap.push _).size; simp)).trans (World.iter_heap w s pos), (ext_alloc w _).trans h⟩
theorem iter_size (w : World) (s : ByteArray) (p : Nat) : (w.iter s p).heap.size = w.heap.size + 1 := by
  show (w.heap.push _).size = _
  rw [Array.size_push]
theorem ItIs.size {w wr : World} {s : ByteArray} {pos : Nat} (h : ItIs w wr s pos) : w.heap.size + 1 ≤ wr.heap.size := by
  have := h.toExt.size
  rwa [iter_size] at this
/-- The numbers of a text's characters, from a place on. -/
def ptsFrom (s : ByteArray) : Nat → Nat → List Nat
  | 0, _ => []
  | f + 1, pos => if pos < s.size then (Utf8.decode s pos).1 :: ptsFrom s f (pos + (Utf8.decode s pos).2) else []
def pts (s : ByteArray) : List Nat := ptsFrom s s.size 0
theorem ptsFrom_end (s : ByteArray) (f pos : Nat) (h : ¬ pos < s.size) : ptsFrom s f pos = [] := by
  cases f with
  | zero => rfl
  | succ f => simp only [ptsFrom]; rw [if_neg h]
end Go.Cv.Utf
namespace Go.Proofs.YthdniboajbhhiaaDoor
open Go.RowKit Go.Cv Go.Cv.Utf Go.Cv.Dig

/-- Numbers in a slice that came back. -/
def Ints (w : World) (v : Value) (l : List Nat) : Prop := ∃ A n c, v = .slice A n c ∧ l.length = n ∧ n ≤ c ∧ Rd w A (l.map iv)
theorem Ints.ext {w w' : World} {v : Value} {l : List Nat} (h : Ints w v l) (hx : Ext w w') : Ints w' v l := by
  obtain ⟨A, n, c, rfl, hn, hc, hr⟩ := h
  exact ⟨A, n, c, rfl, hn, hc, hr.ext hx⟩
theorem introw : RowT Tryd.prog 33 3 8 := RowT.of (z := .int .i64 0) Tryd.underlying33 (by kernel_rfl) rfl

set_option maxHeartbeats 2000000 in
theorem sound_ok (s : ByteArray) (w : World) (hT : Lib.Utf8Tabs 2 3 w) (hb : badAt s = -1) :
    Calls Tryd.prog 24 #[.string s] w fun e w' => e = .returned .nilIface ∧ Ext w w' := by
  have h := bad_any s w hT
  rw [hb] at h
  clear hb
  go_enter Tryd.func24, Tryd.ntmps24
  go_wp2_with (go_at_call 16; with_reducible refine h.mono ?_; rintro e w' ⟨rfl, hx⟩)
  go_ret
  exact ⟨rfl, hx⟩
set_option maxHeartbeats 2000000 in
theorem sound_no (s : ByteArray) (p : Nat) (w : World) (hT : Lib.Utf8Tabs 2 3 w) (hb : badAt s = (p : Int)) :
    Calls Tryd.prog 24 #[.string s] w fun e w' => ∃ n, e = .returned (.iface 57 (.pointer (some ⟨n, 0, none⟩))) ∧ w'.cell? ⟨n, 0, none⟩ = some (.int .i64 (p : Int)) ∧ w'.cell? ⟨n, 1, none⟩ = some (.iface 28 (.int .i64 7)) ∧ w.heap.size ≤ n ∧ Ext w w' := by
  have h := bad_any s w hT
  rw [hb] at h
  clear hb
  go_enter Tryd.func24, Tryd.ntmps24
  go_wp2_with (go_at_call 16; with_reducible refine h.mono ?_; rintro e w' ⟨rfl, hx⟩)
  go_ret
  refine ⟨_, rfl, by simp [go_sem], by simp [go_sem], hx.size, hx.trans (ext_alloc _ _)⟩

set_option maxHeartbeats 2000000 in
theorem cmp_ok (a b : ByteArray) (w : World) (hT : Lib.Utf8Tabs 2 3 w) (ha : badAt a = -1) (hb : badAt b = -1) :
    Calls Tryd.prog 10 #[.string a, .string b] w fun e w' => e = .returned (.tuple #[.int .i64 (Lib.compareBytes a.data.toList b.data.toList), .nilIface]) ∧ Ext w w' := by
  have h1 := fun w h => bad_any a w h
  rw [ha] at h1
  have h2 := fun w h => bad_any b w h
  rw [hb] at h2
  clear ha hb
  go_enter Tryd.func10, Tryd.ntmps10
  go_wp2_with (first
    | (go_at_call 16; with_reducible refine (h1 _ hT).mono ?_; rintro e w1 ⟨rfl, hx1⟩)
    | (go_at_call 16; with_reducible refine (h2 _ (Utf8Tabs_below hT hx1)).mono ?_; rintro e w2 ⟨rfl, hx2⟩)
    | (go_at_call 23; with_reducible refine (Tryd.strings_Compare _ _ _).mono ?_; rintro e w3 ⟨rfl, rfl⟩))
  go_ret2
  exact ⟨rfl, hx1.trans hx2⟩
set_option maxHeartbeats 2000000 in
theorem cmp_no (a b : ByteArray) (w : World) (hT : Lib.Utf8Tabs 2 3 w) (hab : badAt a ≠ -1 ∨ badAt b ≠ -1) :
    Calls Tryd.prog 10 #[.string a, .string b] w fun e w' => e = .returned (.tuple #[.int .i64 0, .iface 28 (.int .i64 7)]) ∧ Ext w w' := by
  have h1 := fun w h => bad_any a w h
  have h2 := fun w h => bad_any b w h
  rcases badAt_two a with ha | ⟨p, ha, -⟩
  · rcases badAt_two b with hb | ⟨q, hb, -⟩
    · omega
    · rw [ha] at h1
      rw [hb] at h2
      clear ha hb hab
      go_enter Tryd.func10, Tryd.ntmps10
      go_wp2_with (first
        | (go_at_call 16; with_reducible refine (h1 _ hT).mono ?_; rintro e w1 ⟨rfl, hx1⟩)
        | (go_at_call 16; with_reducible refine (h2 _ (Utf8Tabs_below hT hx1)).mono ?_; rintro e w2 ⟨rfl, hx2⟩))
      go_ret2
      exact ⟨rfl, hx1.trans hx2⟩
  · rw [ha] at h1
    clear ha hab
    go_enter Tryd.func10, Tryd.ntmps10
    go_wp2_with (go_at_call 16; with_reducible refine (h1 _ hT).mono ?_; rintro e w1 ⟨rfl, hx1⟩)
    go_ret2
    exact ⟨rfl, hx1⟩

set_option maxHeartbeats 2000000 in
theorem pair_no (x y : Int) (w : World) (h : x < 55296 ∨ 56319 < x ∨ y < 56320 ∨ 57343 < y) :
    Calls Tryd.prog 13 #[.int .i64 x, .int .i64 y] w fun e w' => e = .returned (.tuple #[.int .i64 0, .iface 28 (.int .i64 1)]) ∧ w' = w := by
  rcases (by omega : x < 55296 ∨ (¬ x < 55296 ∧ 56319 < x) ∨ (¬ x < 55296 ∧ ¬ 56319 < x ∧ y < 56320) ∨ (¬ x < 55296 ∧ ¬ 56319 < x ∧ ¬ y < 56320 ∧ 57343 < y)) with h | ⟨h1, h⟩ | ⟨h1, h2, h⟩ | ⟨h1, h2, h3, h⟩
  all_goals
    rename_i h0
    clear h0
    go_enter Tryd.func13, Tryd.ntmps13
    go_wp2
    go_ret2
    exact ⟨rfl, rfl⟩
set_option maxHeartbeats 2000000 in
theorem pair_ok (x y : Int) (w : World) (h1 : ¬ x < 55296) (h2 : ¬ 56319 < x) (h3 : ¬ y < 56320) (h4 : ¬ 57343 < y) :
    Calls Tryd.prog 13 #[.int .i64 x, .int .i64 y] w fun e w' => e = .returned (.tuple #[.int .i64 (65536 + 1024 * (x - 55296) + y - 56320), .nilIface]) ∧ w' = w := by
  rw [show 65536 + 1024 * (x - 55296) + y - 56320 = 65536 + (x - 55296) * 1024 + y - 56320 from by omega]
  go_enter Tryd.func13, Tryd.ntmps13
  go_wp2
  go_ret2
  exact ⟨rfl, rfl⟩

set_option maxHeartbeats 4000000 in
theorem points_ok (s : ByteArray) (w : World) (hT : Lib.Utf8Tabs 2 3 w) (hb : badAt s = -1) (hs : s.size ≤ 2000000) :
    Calls Tryd.prog 14 #[.string s] w fun e w' => ∃ v, e = .returned (.tuple #[v, .nilIface]) ∧ Ints w' v (pts s) ∧ Ext w w' := by
  have hso := sound_ok s w hT hb
  clear hb hT
  go_enter Tryd.func14, Tryd.ntmps14
  go_wp2_with (go_at_call 24; with_reducible refine hso.mono ?_; rintro e w1 ⟨rfl, hx1⟩)
  clear hso
  go_loopw [5] (fun v wr => ∃ (pos b q : Nat) (ds : List Nat), ItIs w1 wr s pos ∧ wr.ownsRow (w1.heap.size + 1) 3 1 v q (ds.map iv) ∧ Hid (ds ++ ptsFrom s b pos = pts s) ∧ q ≤ pos ∧ s.size ≤ pos + b ∧ q ≤ s.size) (fun _ wr => s.size - wr.iterPos w1.heap.size)
  case atStart => exact ⟨0, s.size, 0, [], ItIs.start w1 s, World.ownsRow_nil _ _ _ 1, Lib.hid rfl, by omega, by omega, by omega⟩
  case round =>
    obtain ⟨pos, b, q, ds, hI, ho, hds, hqp, hsz, hqs⟩ := hrel
    have hI2 := Lib.hid hI
    obtain ⟨C, cc, rfl, hnc, hcm, hrd, hlen⟩ := own_form ho
    by_cases hp : pos < s.size
    · have hnx := fun ty => Lib.run_next_any_at (P := Tryd.prog) wr w1.heap.size s pos ty hI.it hp
      have hw1 := dec_pos s pos hp
      have hrl := Lib.rune_le s pos
      obtain ⟨b, rfl⟩ : ∃ b', b = b' + 1 := ⟨b - 1, by omega⟩
      have hd := hds.out
      simp only [ptsFrom, if_pos hp] at hd
      have hI3 := Lib.hid (hI2.out.move (pos + (Utf8.decode s pos).2))
      have ho3 := ownsRow_iterAt ho (Nat.lt_succ_self w1.heap.size) s (pos + (Utf8.decode s pos).2)
      have hpl := Lib.hid (hI2.out.pos_)
      clear hI hds
      generalize (Utf8.decode s pos).1 = r at *
      generalize (Utf8.decode s pos).2 = k at *
      have hd2 : Hid ((ds ++ [r]) ++ ptsFrom s b (pos + k) = pts s) := Lib.hid (by rw [← hd]; simp)
      have hw : IntKind.i64.wrap (r : Int) = (r : Int) := IntWalk.i64_in _ (by omega)
      clear hd ho
      go_wp2_with (at_builtin; refine wpList_app rfl (.tmp 18) (.tmp 21) 33 3 8 rfl introw (w1.heap.size + 1) _ q _ rfl (own_ext ho3 (ext_alloc _ _)) _ 1 1 [iv r] rfl rfl (rd_new_one _ _ _) (one_map_iv [_]) (by simp [maxLen]; omega) (by omega) (Nat.le_trans hI3.out.size (ext_alloc _ _).size) ?_; intro A2 c2' w2 ho2 hc2 hm2 hr2' hE2 hg2; have hEn := hE2 (w1.iter s (pos + k)) (hI3.out.toExt.trans (ext_alloc _ _)) (Nat.le_of_eq (iter_size _ _ _)); clear hE2 hg2 hr2')
      have hI4 := ItIs.ofExt hEn
      refine ⟨⟨pos + k, b, q + 1, ds ++ [r], hI4, by rw [List.map_append]; exact ho2, hd2, by omega, by omega, by omega⟩, ?_⟩
      rw [hI4.pos_, hpl.out]
      omega
    · have hnx := fun ty => Lib.run_next_end_at (P := Tryd.prog) wr w1.heap.size s pos ty hI.it hp
      have hd2 : Hid (ds = pts s) := Lib.hid (by have := hds.out; rwa [ptsFrom_end _ _ _ hp, List.append_nil] at this)
      clear hI hds
      go_wp2
      go_ret2
      refine ⟨_, rfl, ?_, hx1.trans hI2.out.ext⟩
      rw [← hd2.out]
      exact ⟨C, q, cc, rfl, by simpa using hlen, hnc, hrd⟩
end Go.Proofs.YthdniboajbhhiaaDoor
