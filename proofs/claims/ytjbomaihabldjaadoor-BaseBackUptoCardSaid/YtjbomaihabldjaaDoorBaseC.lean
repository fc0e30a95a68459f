/-
  Walks of the layer base: a text read as bytes.
-/
import Derived.Test.YtjbomaihabldjaaDoorBaseB
set_option linter.unusedSimpArgs false
set_option linter.unusedVariables false
namespace Go.Cv.Base
open Go.RowKit
/-- A letter's worth; -1: it is none. -/
def wI (u : Bool) (c : UInt8) : Int := Lib.indexByte (alph u).data.toList c
def W (u : Bool) (c : UInt8) : Nat := (wI u c).toNat
set_option maxRecDepth 100000 in
theorem wI_all : ∀ u : Bool, ∀ n : Fin 256, wI u (UInt8.ofNat n.val) = -1 ∨ (0 ≤ wI u (UInt8.ofNat n.val) ∧ wI u (UInt8.ofNat n.val) < 64 ∧ L u (wI u (UInt8.ofNat n.val)).toNat = UInt8.ofNat n.val) := by decide +kernel
theorem wI_two (u : Bool) (c : UInt8) : wI u c = -1 ∨ (0 ≤ wI u c ∧ wI u c < 64 ∧ L u (wI u c).toNat = c) := by
  have h := wI_all u ⟨c.toNat, c.toNat_lt⟩
  have e : UInt8.ofNat c.toNat = c := by simp
  rwa [e] at h
set_option maxRecDepth 100000 in
theorem wI_L_all : ∀ u : Bool, ∀ n : Fin 64, wI u (L u n.val) = (n.val : Int) := by decide +kernel
theorem wI_L (u : Bool) (n : Nat) (h : n < 64) : wI u (L u n) = (n : Int) := wI_L_all u ⟨n, h⟩
theorem W_L (u : Bool) (n : Nat) (h : n < 64) : W u (L u n) = n := by unfold W; rw [wI_L u n h]; rfl
/-- What the values of letters are, as bytes; none: a rest that isn't 0. -/
def dec : List Nat → Option (List UInt8)
  | a :: b :: c :: d :: r => (dec r).map fun t => u8 ((((((a * 64 + b) * 64 + c) * 64 + d : Nat) : Int)) / 65536) :: u8 ((((((a * 64 + b) * 64 + c) * 64 + d : Nat) : Int)) / 256) :: u8 (((((a * 64 + b) * 64 + c) * 64 + d : Nat) : Int)) :: t
  | [a, b, c] => if c % 4 = 0 then some [u8 (((((a * 64 + b) * 64 + c : Nat) : Int)) / 1024), u8 (((((a * 64 + b) * 64 + c) % 1024 * 4 : Nat) : Int) / 16)] else none
  | [a, b] => if b % 16 = 0 then some [u8 (((a * 64 + b : Nat) : Int) / 16)] else none
  | [_] => none
  | [] => some []
def decT (out : List UInt8) (ws : List Nat) : Option (List UInt8) := (dec ws).map (out ++ ·)
theorem decT_four (out : List UInt8) (a b c d : Nat) (r : List Nat) : decT out (a :: b :: c :: d :: r) = decT (out ++ [u8 ((((((a * 64 + b) * 64 + c) * 64 + d : Nat) : Int)) / 65536), u8 ((((((a * 64 + b) * 64 + c) * 64 + d : Nat) : Int)) / 256), u8 (((((a * 64 + b) * 64 + c) * 64 + d : Nat) : Int))]) r := by
  unfold decT
  simp only [dec, Option.map_map]
  congr 1
  funext t
  simp
def vals (u : Bool) (s : ByteArray) : List Nat := s.data.toList.map (W u)
theorem vals_len (u : Bool) (s : ByteArray) : (vals u s).length = s.size := by
  unfold vals; rw [List.length_map, Array.length_toList]; rfl
theorem vals_drop (u : Bool) (s : ByteArray) (i : Nat) (h : i < s.size) : (vals u s).drop i = W u (s[i]'h) :: (vals u s).drop (i + 1) := by
  have hl : i < (vals u s).length := by rw [vals_len]; exact h
  rw [List.drop_eq_getElem_cons hl]
  congr 1
  simp only [vals, List.getElem_map, Array.getElem_toList]
  rfl
theorem vals_end (u : Bool) (s : ByteArray) (i : Nat) (h : ¬ i < s.size) : (vals u s).drop i = [] := List.drop_of_length_le (by rw [vals_len]; omega)
/-- All are letters, or the first that isn't. -/
theorem two_let (u : Bool) (s : ByteArray) : (∀ i, (h : i < s.size) → 0 ≤ wI u (s[i]'h)) ∨ ∃ m : Nat, ∃ h : m < s.size, (∀ i, (hi : i < m) → 0 ≤ wI u (s[i]'(by omega))) ∧ wI u (s[m]'h) = -1 := by
  have key : ∀ k, (∀ i, (h : i < s.size) → i < k → 0 ≤ wI u (s[i]'h)) ∨ ∃ m : Nat, ∃ h : m < s.size, (∀ i, (hi : i < m) → 0 ≤ wI u (s[i]'(by omega))) ∧ wI u (s[m]'h) = -1 := by
    intro k
    induction k with
    | zero => exact .inl fun i h hk => by omega
    | succ k ih =>
      rcases ih with ih | ih
      · by_cases hk : k < s.size
        · rcases wI_two u (s[k]'hk) with h | h
          · exact .inr ⟨k, hk, fun i hi => ih i (by omega) hi, h⟩
          · refine .inl fun i hi hik => ?_
            by_cases e : i = k
            · subst e; exact h.1
            · exact ih i hi (by omega)
        · exact .inl fun i hi hik => ih i hi (by omega)
      · exact .inr ih
  rcases key s.size with h | h
  · exact .inl fun i hi => h i hi hi
  · exact .inr h
end Go.Cv.Base
namespace Go.Proofs.YtjbomaihabldjaaDoor
open Go.RowKit Go.Cv Go.Cv.Base Go.Cv.Dig
/-- Bytes in a row of the call's own. -/
def OwnB (w : World) (base : Nat) (v : Value) (l : List UInt8) : Prop := w.ownsRow base 5 1 v l.length (l.map bv)
theorem index_any (u : Bool) (c : UInt8) (w : World) :
    Calls Tryd.prog 17 #[.string (alph u), .int .u8 (n8 c)] w fun e w' => e = .returned (.int .i64 (wI u c)) ∧ w' = w := by
  have h := Tryd.strings_IndexByte (alph u) (n8 c) w
  rw [show (n8 c).toNat.toUInt8 = c from by rw [n8_toNat]; simp] at h
  exact h
/-- Six bits more. -/
theorem or6 (v x : Nat) (hv : v < 16777216) (hx : x < 64) : bits .or .i64 (wrap64 ((v : Int) * 64)) (x : Int) = ((v * 64 + x : Nat) : Int) := by
  have e : ∀ z, wrap64 z = IntKind.i64.wrap z := fun z => by unfold wrap64; rw [IntKind.wrap_i64]
  have e1 : wrap64 ((v : Int) * 64) = ((v * 2 ^ 6 : Nat) : Int) := by
    rw [e, IntWalk.i64_in _ (by omega)]; omega
  rw [e1, or_add _ _ 6 (by omega), IntWalk.i64_in _ (by omega)]
/-- Bytes that came back. -/
def BytesV (w : World) (v : Value) (l : List UInt8) : Prop := ∃ A n c, v = .slice A n c ∧ l.length = n ∧ n ≤ c ∧ Rd w A (l.map bv)
/-- What comes back, if all are letters. -/
def DecRes (u : Bool) (s : ByteArray) (w : World) (e : Ending) (w' : World) : Prop :=
  (∃ d v, dec (vals u s) = some d ∧ e = .returned (.tuple #[v, .nilIface]) ∧ BytesV w' v d ∧ Ext w w') ∨
  (dec (vals u s) = none ∧ ∃ b, e = .returned (.tuple #[.slice none 0 0, .iface 48 (.pointer (some ⟨b, 0, none⟩))]) ∧ w'.cell? ⟨b, 0, none⟩ = some (.int .i64 ((s.size : Int) - 1)) ∧ w'.cell? ⟨b, 1, none⟩ = some (.iface 34 (.int .i64 3)) ∧ Ext w w')
set_option maxRecDepth 10000 in
set_option maxHeartbeats 8000000 in
theorem decode_ok (u : Bool) (s : ByteArray) (hok : ∀ i, (h : i < s.size) → 0 ≤ wI u (s[i]'h)) (w : World) (bnd : s.size ≤ 5000000) :
    Calls Tryd.prog 10 #[.string s, .bool u] w fun e w' => DecRes u s w e w' := by
  have hlet := letters_any u
  have hidxa := index_any u
  generalize alph u = al at *
  go_enter Tryd.func10, Tryd.ntmps10
  go_wp2_with (go_at_call 13; with_reducible refine (hlet _).mono ?_; rintro e w ⟨rfl, rfl⟩)
  clear hlet
  obtain ⟨w0, hw0⟩ : ∃ w0, w0 = w := ⟨_, rfl⟩
  subst hw0
  go_loopw [7, 8, 9, 17] (fun t7 t8 t9 t17 wr => ∃ (i n v : Nat) (pend : List Nat) (out : List UInt8), t17 = .int .i64 i ∧ t9 = .int .i64 n ∧ t8 = .int .i64 v ∧ i ≤ s.size ∧ n = pend.length ∧ n < 4 ∧ Hid (v = pend.foldl (fun y x => y * 64 + x) 0) ∧ Hid (∀ x ∈ pend, x < 64) ∧ OwnB wr w0.heap.size t7 out ∧ 4 * out.length + 3 * n ≤ 3 * i ∧ Ext w0 wr ∧ Hid (decT out (pend ++ (vals u s).drop i) = decT [] (vals u s))) (fun _ _ _ t17 _ => s.size - (intOf t17).toNat)
  case atStart => exact ⟨0, 0, 0, [], [], rfl, rfl, rfl, by omega, rfl, by decide, Lib.hid rfl, Lib.hid (by simp), World.ownsRow_nil _ _ _ 1, by simp, Ext.refl _, Lib.hid rfl⟩
  case round =>
    obtain ⟨i, n, v, pend, out, rfl, rfl, rfl, hib, hn, hn4, hv, hp6, hO, hol', hE, hd⟩ := hrel
    by_cases his : i < s.size
    · have hpi : (i : Int) < (s.size : Int) := by omega
      have hpz : 0 ≤ (i : Int) ∧ (i : Int) < (s.size : Int) := by omega
      have hx0 := hok i his
      have hidx := hidxa (s[i]'his)
      have hw64 : wI u (s[i]'his) < 64 := by rcases wI_two u (s[i]'his) with h | h <;> omega
      clear hidxa
      rcases pend with _ | ⟨a, _ | ⟨b, _ | ⟨c, _ | ⟨d, r⟩⟩⟩⟩
      · obtain rfl : n = 0 := hn
        obtain ⟨x, hx⟩ : ∃ x : Nat, wI u (s[i]'his) = (x : Int) := ⟨_, (Int.toNat_of_nonneg hx0).symm⟩
        have hWx : W u (s[i]'his) = x := by unfold W; rw [hx]; rfl
        have hx64 : x < 64 := by omega
        have hvv : v = 0 := by have := hv.out; simpa using this
        have hb : v < 16777216 := by
          have hp := hp6.out
          skip
          omega
        have hor := or6 v x hb hx64
        have hd2 : Hid (decT out ([] ++ [x] ++ (vals u s).drop (i + 1)) = decT [] (vals u s)) := Lib.hid (by
          rw [← hd.out, vals_drop u s i his, hWx]
          simp)
        have hv2 : Hid (v * 64 + x = ([] ++ [x]).foldl (fun y x => y * 64 + x) 0) := Lib.hid (by rw [hvv]; simp)
        have hp2 : Hid (∀ y ∈ [] ++ [x], y < 64) := Lib.hid (by
          have hp := hp6.out
          intro y hy
          rcases List.mem_append.1 hy with h | h
          · exact hp y h
          · rw [List.mem_singleton.1 h]; exact hx64)
        rw [hx] at hidx
        clear hvv hWx hd hv hp6 hx hx0 hok
        generalize hz : v * 64 + x = z at *
        clear hz hb
        go_wp2_with (go_at_call 17; with_reducible refine (hidx _).mono ?_; rintro e w2 ⟨rfl, rfl⟩)
        exact ⟨⟨i + 1, 1, z, [] ++ [x], out, by go_num, rfl, rfl, by omega, rfl, by decide, hv2, hp2, hO, by omega, hE, hd2⟩, by simp [intOf]; omega⟩
      · obtain rfl : n = 1 := hn
        obtain ⟨x, hx⟩ : ∃ x : Nat, wI u (s[i]'his) = (x : Int) := ⟨_, (Int.toNat_of_nonneg hx0).symm⟩
        have hWx : W u (s[i]'his) = x := by unfold W; rw [hx]; rfl
        have hx64 : x < 64 := by omega
        have hvv : v = a := by have := hv.out; simpa using this
        have hb : v < 16777216 := by
          have hp := hp6.out
          simp at hp
          omega
        have hor := or6 v x hb hx64
        have hd2 : Hid (decT out ([a] ++ [x] ++ (vals u s).drop (i + 1)) = decT [] (vals u s)) := Lib.hid (by
          rw [← hd.out, vals_drop u s i his, hWx]
          simp)
        have hv2 : Hid (v * 64 + x = ([a] ++ [x]).foldl (fun y x => y * 64 + x) 0) := Lib.hid (by rw [hvv]; simp)
        have hp2 : Hid (∀ y ∈ [a] ++ [x], y < 64) := Lib.hid (by
          have hp := hp6.out
          intro y hy
          rcases List.mem_append.1 hy with h | h
          · exact hp y h
          · rw [List.mem_singleton.1 h]; exact hx64)
        rw [hx] at hidx
        clear hvv hWx hd hv hp6 hx hx0 hok
        generalize hz : v * 64 + x = z at *
        clear hz hb
        go_wp2_with (go_at_call 17; with_reducible refine (hidx _).mono ?_; rintro e w2 ⟨rfl, rfl⟩)
        exact ⟨⟨i + 1, 2, z, [a] ++ [x], out, by go_num, rfl, rfl, by omega, rfl, by decide, hv2, hp2, hO, by omega, hE, hd2⟩, by simp [intOf]; omega⟩
      · obtain rfl : n = 2 := hn
        obtain ⟨x, hx⟩ : ∃ x : Nat, wI u (s[i]'his) = (x : Int) := ⟨_, (Int.toNat_of_nonneg hx0).symm⟩
        have hWx : W u (s[i]'his) = x := by unfold W; rw [hx]; rfl
        have hx64 : x < 64 := by omega
        have hvv : v = (a * 64 + b) := by have := hv.out; simpa using this
        have hb : v < 16777216 := by
          have hp := hp6.out
          simp at hp
          omega
        have hor := or6 v x hb hx64
        have hd2 : Hid (decT out ([a, b] ++ [x] ++ (vals u s).drop (i + 1)) = decT [] (vals u s)) := Lib.hid (by
          rw [← hd.out, vals_drop u s i his, hWx]
          simp)
        have hv2 : Hid (v * 64 + x = ([a, b] ++ [x]).foldl (fun y x => y * 64 + x) 0) := Lib.hid (by rw [hvv]; simp)
        have hp2 : Hid (∀ y ∈ [a, b] ++ [x], y < 64) := Lib.hid (by
          have hp := hp6.out
          intro y hy
          rcases List.mem_append.1 hy with h | h
          · exact hp y h
          · rw [List.mem_singleton.1 h]; exact hx64)
        rw [hx] at hidx
        clear hvv hWx hd hv hp6 hx hx0 hok
        generalize hz : v * 64 + x = z at *
        clear hz hb
        go_wp2_with (go_at_call 17; with_reducible refine (hidx _).mono ?_; rintro e w2 ⟨rfl, rfl⟩)
        exact ⟨⟨i + 1, 3, z, [a, b] ++ [x], out, by go_num, rfl, rfl, by omega, rfl, by decide, hv2, hp2, hO, by omega, hE, hd2⟩, by simp [intOf]; omega⟩
      · obtain rfl : n = 3 := hn
        obtain ⟨x, hx⟩ : ∃ x : Nat, wI u (s[i]'his) = (x : Int) := ⟨_, (Int.toNat_of_nonneg hx0).symm⟩
        have hWx : W u (s[i]'his) = x := by unfold W; rw [hx]; rfl
        have hx64 : x < 64 := by omega
        have hvv : v = ((a * 64 + b) * 64 + c) := by have := hv.out; simpa using this
        have hb : v < 16777216 := by
          have hp := hp6.out
          simp at hp
          omega
        have hor := or6 v x hb hx64
        have hd2 : Hid (decT (out ++ [u8 (((v * 64 + x : Nat) : Int) / 65536), u8 (((v * 64 + x : Nat) : Int) / 256), u8 ((v * 64 + x : Nat) : Int)]) ([] ++ (vals u s).drop (i + 1)) = decT [] (vals u s)) := Lib.hid (by
          rw [← hd.out, vals_drop u s i his, hWx]
          rw [hvv]; exact (decT_four out a b c x _).symm)
        have hv2 : Hid (v * 64 + x = ([a, b, c] ++ [x]).foldl (fun y x => y * 64 + x) 0) := Lib.hid (by rw [hvv]; simp)
        have hp2 : Hid (∀ y ∈ [a, b, c] ++ [x], y < 64) := Lib.hid (by
          have hp := hp6.out
          intro y hy
          rcases List.mem_append.1 hy with h | h
          · exact hp y h
          · rw [List.mem_singleton.1 h]; exact hx64)
        rw [hx] at hidx
        clear hvv hWx hd hv hp6 hx hx0 hok
        generalize hz : v * 64 + x = z at *
        clear hz hb
        have hO2 := hO
        unfold OwnB at hO2
        obtain ⟨C, cc, rfl, hnc, hcm, hrd, -⟩ := own_form hO2
        have hlo : (([u8 ((z : Int) / 65536), u8 ((z : Int) / 256), u8 (z : Int)] : List UInt8).map bv) = [.int .u8 (n8 (u8 ((z : Int) / 65536))), .int .u8 (n8 (u8 ((z : Int) / 256))), .int .u8 (n8 (u8 (z : Int)))] := rfl
        generalize hol : out.length = q at *
        go_wp2_with (first
          | (go_at_call 17; with_reducible refine (hidx _).mono ?_; rintro e w ⟨rfl, rfl⟩)
          | (at_builtin; refine wpList_appb rfl (.tmp 40) (.tmp 49) 22 5 rfl u8rowU w0.heap.size _ q _ rfl (own_ext hO2 (ext_alloc _ _)) (some _) 3 3 [u8 ((z : Int) / 65536), u8 ((z : Int) / 256), u8 (z : Int)] rfl rfl (rd_new_list _ _ _) (by omega) (by have := hE.size; simp; omega) ?_; intro A4 c4 w4 ho4 hc4 hm4 hr4 hE4; have hx4 := hE4 w0 (hE.trans (ext_alloc _ _)) (Nat.le_refl _); clear hE4))
        refine ⟨⟨i + 1, 0, 0, [], out ++ [u8 ((z : Int) / 65536), u8 ((z : Int) / 256), u8 (z : Int)], by go_num, rfl, rfl, by omega, rfl, by decide, Lib.hid rfl, Lib.hid (by simp), ?_, by simp; omega, hx4, hd2⟩, by simp [intOf]; omega⟩
        unfold OwnB
        rw [List.length_append, hol]
        exact ho4
      · simp at hn; omega
    · have hpi : ¬ (i : Int) < (s.size : Int) := by omega
      obtain rfl : i = s.size := by omega
      rw [vals_end u s _ his, List.append_nil] at hd
      have hO2 := hO
      unfold OwnB at hO2
      obtain ⟨C, cc, rfl, hnc, hcm, hrd, -⟩ := own_form hO2
      have hdd := hd.out
      clear hd hidxa hok
      rcases pend with _ | ⟨a, _ | ⟨b, _ | ⟨c, _ | ⟨d, r⟩⟩⟩⟩
      · obtain rfl : n = 0 := hn
        have hvv : v = 0 := by have := hv.out; simpa using this
        have hres : Hid (dec (vals u s) = some out) := Lib.hid (by
          unfold decT at hdd; simpa [dec] using hdd.symm)
        clear hdd hv hp6 hvv
        generalize hol : out.length = q at *
        go_wp2
        go_ret2
        exact .inl ⟨out, _, hres.out, rfl, ⟨C, q, cc, rfl, hol, hnc, hrd⟩, hE⟩
      · obtain rfl : n = 1 := hn
        have hvv : v = a := by have := hv.out; simpa using this
        have hp := hp6.out
        simp at hp
        have hres : Hid (dec (vals u s) = none) := Lib.hid (by
          unfold decT at hdd; simpa [dec] using hdd.symm)
        clear hdd hv hp6 hvv hp
        generalize hol : out.length = q at *
        go_wp2
        go_ret2
        exact .inr ⟨hres.out, _, rfl, by simp [go_sem], by simp [go_sem], hE.trans (ext_alloc _ _)⟩
      · obtain rfl : n = 2 := hn
        have hvv : v = (a * 64 + b) := by have := hv.out; simpa using this
        have hp := hp6.out
        simp at hp
        have hand := and_mod v 4 (by decide) (by omega)
        have hand' : bits .and .i64 ((v : Int)) 15 = ((v % 2 ^ 4 : Nat) : Int) := hand
        by_cases h0 : b % 16 = 0
        · have hz : ((v % 2 ^ 4 : Nat) : Int) = 0 := by omega
          rw [hz] at hand'
          have hres : Hid (dec (vals u s) = some (out ++ ([u8 ((v : Int) / 16)]))) := Lib.hid (by
            unfold decT at hdd
            simp only [dec, if_pos h0] at hdd
            rw [hvv]
            simpa using hdd.symm)
          clear hdd hv hp6 hvv hp h0 hz hand
          generalize hol : out.length = q at *
          go_wp2_with (first
          | (at_builtin; refine wpList_appb rfl (.tmp 68) (.tmp 72) 22 5 rfl u8rowU w0.heap.size _ q _ rfl (own_ext hO2 (ext_alloc _ _)) (some _) 1 1 [u8 ((v : Int) / 16)] rfl rfl (rd_new_list _ _ _) (by omega) (by have := hE.size; simp; omega) ?_; intro A4 c4 w4 ho4 hc4 hm4 hr4 hE4; have hx4 := hE4 w0 (hE.trans (ext_alloc _ _)) (Nat.le_refl _); clear hE4))
          go_ret2
          refine .inl ⟨_, _, hres.out, rfl, ⟨_, _, _, rfl, ?_, hc4, ?_⟩, hx4⟩
          · simp [hol]
          · exact hr4
        · have hz : ¬ ((v % 2 ^ 4 : Nat) : Int) = 0 := by omega
          generalize ((v % 2 ^ 4 : Nat) : Int) = z0 at *
          have hres : Hid (dec (vals u s) = none) := Lib.hid (by
            unfold decT at hdd
            simp only [dec, if_neg h0] at hdd
            simpa using hdd.symm)
          clear hdd hv hp6 hvv hp h0 
          generalize hol : out.length = q at *
          go_wp2_with (first
          | (at_builtin; refine wpList_appb rfl (.tmp 68) (.tmp 72) 22 5 rfl u8rowU w0.heap.size _ q _ rfl (own_ext hO2 (ext_alloc _ _)) (some _) 1 1 [u8 ((v : Int) / 16)] rfl rfl (rd_new_list _ _ _) (by omega) (by have := hE.size; simp; omega) ?_; intro A4 c4 w4 ho4 hc4 hm4 hr4 hE4; have hx4 := hE4 w0 (hE.trans (ext_alloc _ _)) (Nat.le_refl _); clear hE4))
          go_ret2
          exact .inr ⟨hres.out, _, rfl, by simp [go_sem], by simp [go_sem], hx4.trans (ext_alloc _ _)⟩
      · obtain rfl : n = 3 := hn
        have hvv : v = ((a * 64 + b) * 64 + c) := by have := hv.out; simpa using this
        have hp := hp6.out
        simp at hp
        have hand0 := and_mod v 10 (by decide) (by omega)
        obtain ⟨m0, hm0⟩ : ∃ m0, m0 = v % 1024 := ⟨_, rfl⟩
        obtain ⟨m, hm⟩ : ∃ m, m = m0 * 4 := ⟨_, rfl⟩
        have hand0' : bits .and .i64 (v : Int) 1023 = (m0 : Int) := by rw [hm0]; exact hand0
        have hshl : wrap64 ((m0 : Int) * 4) = (m : Int) := by rw [IntWalk.wrap64_in _ (by omega)]; omega
        have hand := and_mod m 4 (by decide) (by omega)
        have hand' : bits .and .i64 ((m : Int)) 15 = ((m % 2 ^ 4 : Nat) : Int) := hand
        by_cases h0 : c % 4 = 0
        · have hz : ((m % 2 ^ 4 : Nat) : Int) = 0 := by omega
          rw [hz] at hand'
          have hres : Hid (dec (vals u s) = some (out ++ ([u8 ((v : Int) / 1024)] ++ [u8 ((m : Int) / 16)]))) := Lib.hid (by
            unfold decT at hdd
            simp only [dec, if_pos h0] at hdd
            rw [hm, hm0, hvv]
            simpa using hdd.symm)
          clear hdd hv hp6 hvv hp h0 hz hand0 hand hm hm0
          generalize hol : out.length = q at *
          go_wp2_with (first
          | (at_builtin; refine wpList_appb rfl (.tmp 59) (.tmp 63) 22 5 rfl u8rowU w0.heap.size _ q _ rfl (own_ext hO2 (ext_alloc _ _)) (some _) 1 1 [u8 ((v : Int) / 1024)] rfl rfl (rd_new_list _ _ _) (by omega) (by have := hE.size; simp; omega) ?_; intro A4 c4 w4 ho4 hc4 hm4 hr4 hE4; have hx4 := hE4 w0 (hE.trans (ext_alloc _ _)) (Nat.le_refl _); clear hE4)
          | (at_builtin; refine wpList_appb rfl (.tmp 68) (.tmp 72) 22 5 rfl u8rowU w0.heap.size _ (q + 1) _ rfl (own_ext ho4 (ext_alloc _ _)) (some _) 1 1 [u8 ((m : Int) / 16)] rfl rfl (rd_new_list _ _ _) (by omega) (by have := hx4.size; simp; omega) ?_; intro A5 c5 w5 ho5 hc5 hm5 hr5 hE5; have hx5 := hE5 w0 (hx4.trans (ext_alloc _ _)) (Nat.le_refl _); clear hE5))
          go_ret2
          refine .inl ⟨_, _, hres.out, rfl, ⟨_, _, _, rfl, ?_, hc5, ?_⟩, hx5⟩
          · simp [hol]
          · rw [← List.append_assoc]; exact hr5
        · have hz : ¬ ((m % 2 ^ 4 : Nat) : Int) = 0 := by omega
          generalize ((m % 2 ^ 4 : Nat) : Int) = z0 at *
          have hres : Hid (dec (vals u s) = none) := Lib.hid (by
            unfold decT at hdd
            simp only [dec, if_neg h0] at hdd
            simpa using hdd.symm)
          clear hdd hv hp6 hvv hp h0 hand0 hand hm hm0
          generalize hol : out.length = q at *
          go_wp2_with (first
          | (at_builtin; refine wpList_appb rfl (.tmp 59) (.tmp 63) 22 5 rfl u8rowU w0.heap.size _ q _ rfl (own_ext hO2 (ext_alloc _ _)) (some _) 1 1 [u8 ((v : Int) / 1024)] rfl rfl (rd_new_list _ _ _) (by omega) (by have := hE.size; simp; omega) ?_; intro A4 c4 w4 ho4 hc4 hm4 hr4 hE4; have hx4 := hE4 w0 (hE.trans (ext_alloc _ _)) (Nat.le_refl _); clear hE4)
          | (at_builtin; refine wpList_appb rfl (.tmp 68) (.tmp 72) 22 5 rfl u8rowU w0.heap.size _ (q + 1) _ rfl (own_ext ho4 (ext_alloc _ _)) (some _) 1 1 [u8 ((m : Int) / 16)] rfl rfl (rd_new_list _ _ _) (by omega) (by have := hx4.size; simp; omega) ?_; intro A5 c5 w5 ho5 hc5 hm5 hr5 hE5; have hx5 := hE5 w0 (hx4.trans (ext_alloc _ _)) (Nat.le_refl _); clear hE5))
          go_ret2
          exact .inr ⟨hres.out, _, rfl, by simp [go_sem], by simp [go_sem], hx5.trans (ext_alloc _ _)⟩
      · simp at hn; omega
set_option maxRecDepth 10000 in
set_option maxHeartbeats 8000000 in
theorem decode_bad (u : Bool) (s : ByteArray) (m : Nat) (hm : m < s.size) (hok : ∀ i, (hi : i < m) → 0 ≤ wI u (s[i]'(by omega))) (hbad : wI u (s[m]'hm) = -1) (w : World) (bnd : s.size ≤ 5000000) :
    Calls Tryd.prog 10 #[.string s, .bool u] w fun e w' => ∃ b, e = .returned (.tuple #[.slice none 0 0, .iface 48 (.pointer (some ⟨b, 0, none⟩))]) ∧ w'.cell? ⟨b, 0, none⟩ = some (.int .i64 (m : Int)) ∧ w'.cell? ⟨b, 1, none⟩ = some (.iface 34 (.int .i64 3)) ∧ Ext w w' := by
  have hlet := letters_any u
  have hidxa := index_any u
  generalize alph u = al at *
  go_enter Tryd.func10, Tryd.ntmps10
  go_wp2_with (go_at_call 13; with_reducible refine (hlet _).mono ?_; rintro e w ⟨rfl, rfl⟩)
  clear hlet
  obtain ⟨w0, hw0⟩ : ∃ w0, w0 = w := ⟨_, rfl⟩
  subst hw0
  go_loopw [7, 8, 9, 17] (fun t7 t8 t9 t17 wr => ∃ (i n v : Nat) (pend : List Nat) (out : List UInt8), t17 = .int .i64 i ∧ t9 = .int .i64 n ∧ t8 = .int .i64 v ∧ i ≤ m ∧ n = pend.length ∧ n < 4 ∧ Hid (v = pend.foldl (fun y x => y * 64 + x) 0) ∧ Hid (∀ x ∈ pend, x < 64) ∧ OwnB wr w0.heap.size t7 out ∧ 4 * out.length + 3 * n ≤ 3 * i ∧ Ext w0 wr ∧ Hid (decT out (pend ++ (vals u s).drop i) = decT [] (vals u s))) (fun _ _ _ t17 _ => s.size - (intOf t17).toNat)
  case atStart => exact ⟨0, 0, 0, [], [], rfl, rfl, rfl, by omega, rfl, by decide, Lib.hid rfl, Lib.hid (by simp), World.ownsRow_nil _ _ _ 1, by simp, Ext.refl _, Lib.hid rfl⟩
  case round =>
    obtain ⟨i, n, v, pend, out, rfl, rfl, rfl, hib, hn, hn4, hv, hp6, hO, hol', hE, hd⟩ := hrel
    have his : i < s.size := by omega
    have hpi : (i : Int) < (s.size : Int) := by omega
    have hpz : 0 ≤ (i : Int) ∧ (i : Int) < (s.size : Int) := by omega
    have hidx := hidxa (s[i]'his)
    have hw64 : wI u (s[i]'his) < 64 := by rcases wI_two u (s[i]'his) with h | h <;> omega
    clear hidxa
    by_cases him : i < m
    · have hx0 := hok i him
      rcases pend with _ | ⟨a, _ | ⟨b, _ | ⟨c, _ | ⟨d, r⟩⟩⟩⟩
      · obtain rfl : n = 0 := hn
        obtain ⟨x, hx⟩ : ∃ x : Nat, wI u (s[i]'his) = (x : Int) := ⟨_, (Int.toNat_of_nonneg hx0).symm⟩
        have hWx : W u (s[i]'his) = x := by unfold W; rw [hx]; rfl
        have hx64 : x < 64 := by omega
        have hvv : v = 0 := by have := hv.out; simpa using this
        have hb : v < 16777216 := by
          have hp := hp6.out
          skip
          omega
        have hor := or6 v x hb hx64
        have hd2 : Hid (decT out ([] ++ [x] ++ (vals u s).drop (i + 1)) = decT [] (vals u s)) := Lib.hid (by
          rw [← hd.out, vals_drop u s i his, hWx]
          simp)
        have hv2 : Hid (v * 64 + x = ([] ++ [x]).foldl (fun y x => y * 64 + x) 0) := Lib.hid (by rw [hvv]; simp)
        have hp2 : Hid (∀ y ∈ [] ++ [x], y < 64) := Lib.hid (by
          have hp := hp6.out
          intro y hy
          rcases List.mem_append.1 hy with h | h
          · exact hp y h
          · rw [List.mem_singleton.1 h]; exact hx64)
        rw [hx] at hidx
        clear hvv hWx hd hv hp6 hx hx0 hok hbad
        generalize hz : v * 64 + x = z at *
        clear hz hb
        go_wp2_with (go_at_call 17; with_reducible refine (hidx _).mono ?_; rintro e w2 ⟨rfl, rfl⟩)
        exact ⟨⟨i + 1, 1, z, [] ++ [x], out, by go_num, rfl, rfl, by omega, rfl, by decide, hv2, hp2, hO, by omega, hE, hd2⟩, by simp [intOf]; omega⟩
      · obtain rfl : n = 1 := hn
        obtain ⟨x, hx⟩ : ∃ x : Nat, wI u (s[i]'his) = (x : Int) := ⟨_, (Int.toNat_of_nonneg hx0).symm⟩
        have hWx : W u (s[i]'his) = x := by unfold W; rw [hx]; rfl
        have hx64 : x < 64 := by omega
        have hvv : v = a := by have := hv.out; simpa using this
        have hb : v < 16777216 := by
          have hp := hp6.out
          simp at hp
          omega
        have hor := or6 v x hb hx64
        have hd2 : Hid (decT out ([a] ++ [x] ++ (vals u s).drop (i + 1)) = decT [] (vals u s)) := Lib.hid (by
          rw [← hd.out, vals_drop u s i his, hWx]
          simp)
        have hv2 : Hid (v * 64 + x = ([a] ++ [x]).foldl (fun y x => y * 64 + x) 0) := Lib.hid (by rw [hvv]; simp)
        have hp2 : Hid (∀ y ∈ [a] ++ [x], y < 64) := Lib.hid (by
          have hp := hp6.out
          intro y hy
          rcases List.mem_append.1 hy with h | h
          · exact hp y h
          · rw [List.mem_singleton.1 h]; exact hx64)
        rw [hx] at hidx
        clear hvv hWx hd hv hp6 hx hx0 hok hbad
        generalize hz : v * 64 + x = z at *
        clear hz hb
        go_wp2_with (go_at_call 17; with_reducible refine (hidx _).mono ?_; rintro e w2 ⟨rfl, rfl⟩)
        exact ⟨⟨i + 1, 2, z, [a] ++ [x], out, by go_num, rfl, rfl, by omega, rfl, by decide, hv2, hp2, hO, by omega, hE, hd2⟩, by simp [intOf]; omega⟩
      · obtain rfl : n = 2 := hn
        obtain ⟨x, hx⟩ : ∃ x : Nat, wI u (s[i]'his) = (x : Int) := ⟨_, (Int.toNat_of_nonneg hx0).symm⟩
        have hWx : W u (s[i]'his) = x := by unfold W; rw [hx]; rfl
        have hx64 : x < 64 := by omega
        have hvv : v = (a * 64 + b) := by have := hv.out; simpa using this
        have hb : v < 16777216 := by
          have hp := hp6.out
          simp at hp
          omega
        have hor := or6 v x hb hx64
        have hd2 : Hid (decT out ([a, b] ++ [x] ++ (vals u s).drop (i + 1)) = decT [] (vals u s)) := Lib.hid (by
          rw [← hd.out, vals_drop u s i his, hWx]
          simp)
        have hv2 : Hid (v * 64 + x = ([a, b] ++ [x]).foldl (fun y x => y * 64 + x) 0) := Lib.hid (by rw [hvv]; simp)
        have hp2 : Hid (∀ y ∈ [a, b] ++ [x], y < 64) := Lib.hid (by
          have hp := hp6.out
          intro y hy
          rcases List.mem_append.1 hy with h | h
          · exact hp y h
          · rw [List.mem_singleton.1 h]; exact hx64)
        rw [hx] at hidx
        clear hvv hWx hd hv hp6 hx hx0 hok hbad
        generalize hz : v * 64 + x = z at *
        clear hz hb
        go_wp2_with (go_at_call 17; with_reducible refine (hidx _).mono ?_; rintro e w2 ⟨rfl, rfl⟩)
        exact ⟨⟨i + 1, 3, z, [a, b] ++ [x], out, by go_num, rfl, rfl, by omega, rfl, by decide, hv2, hp2, hO, by omega, hE, hd2⟩, by simp [intOf]; omega⟩
      · obtain rfl : n = 3 := hn
        obtain ⟨x, hx⟩ : ∃ x : Nat, wI u (s[i]'his) = (x : Int) := ⟨_, (Int.toNat_of_nonneg hx0).symm⟩
        have hWx : W u (s[i]'his) = x := by unfold W; rw [hx]; rfl
        have hx64 : x < 64 := by omega
        have hvv : v = ((a * 64 + b) * 64 + c) := by have := hv.out; simpa using this
        have hb : v < 16777216 := by
          have hp := hp6.out
          simp at hp
          omega
        have hor := or6 v x hb hx64
        have hd2 : Hid (decT (out ++ [u8 (((v * 64 + x : Nat) : Int) / 65536), u8 (((v * 64 + x : Nat) : Int) / 256), u8 ((v * 64 + x : Nat) : Int)]) ([] ++ (vals u s).drop (i + 1)) = decT [] (vals u s)) := Lib.hid (by
          rw [← hd.out, vals_drop u s i his, hWx]
          rw [hvv]; exact (decT_four out a b c x _).symm)
        have hv2 : Hid (v * 64 + x = ([a, b, c] ++ [x]).foldl (fun y x => y * 64 + x) 0) := Lib.hid (by rw [hvv]; simp)
        have hp2 : Hid (∀ y ∈ [a, b, c] ++ [x], y < 64) := Lib.hid (by
          have hp := hp6.out
          intro y hy
          rcases List.mem_append.1 hy with h | h
          · exact hp y h
          · rw [List.mem_singleton.1 h]; exact hx64)
        rw [hx] at hidx
        clear hvv hWx hd hv hp6 hx hx0 hok hbad
        generalize hz : v * 64 + x = z at *
        clear hz hb
        have hO2 := hO
        unfold OwnB at hO2
        obtain ⟨C, cc, rfl, hnc, hcm, hrd, -⟩ := own_form hO2
        have hlo : (([u8 ((z : Int) / 65536), u8 ((z : Int) / 256), u8 (z : Int)] : List UInt8).map bv) = [.int .u8 (n8 (u8 ((z : Int) / 65536))), .int .u8 (n8 (u8 ((z : Int) / 256))), .int .u8 (n8 (u8 (z : Int)))] := rfl
        generalize hol : out.length = q at *
        go_wp2_with (first
          | (go_at_call 17; with_reducible refine (hidx _).mono ?_; rintro e w ⟨rfl, rfl⟩)
          | (at_builtin; refine wpList_appb rfl (.tmp 40) (.tmp 49) 22 5 rfl u8rowU w0.heap.size _ q _ rfl (own_ext hO2 (ext_alloc _ _)) (some _) 3 3 [u8 ((z : Int) / 65536), u8 ((z : Int) / 256), u8 (z : Int)] rfl rfl (rd_new_list _ _ _) (by omega) (by have := hE.size; simp; omega) ?_; intro A4 c4 w4 ho4 hc4 hm4 hr4 hE4; have hx4 := hE4 w0 (hE.trans (ext_alloc _ _)) (Nat.le_refl _); clear hE4))
        refine ⟨⟨i + 1, 0, 0, [], out ++ [u8 ((z : Int) / 65536), u8 ((z : Int) / 256), u8 (z : Int)], by go_num, rfl, rfl, by omega, rfl, by decide, Lib.hid rfl, Lib.hid (by simp), ?_, by simp; omega, hx4, hd2⟩, by simp [intOf]; omega⟩
        unfold OwnB
        rw [List.length_append, hol]
        exact ho4
      · simp at hn; omega
    · obtain rfl : i = m := by omega
      rw [hbad] at hidx
      clear hok hbad hv hp6 hd hO
      go_wp2_with (go_at_call 17; with_reducible refine (hidx _).mono ?_; rintro e w2 ⟨rfl, rfl⟩)
      go_ret2
      exact ⟨_, rfl, by simp [go_sem], by simp [go_sem], hE.trans (ext_alloc _ _)⟩
end Go.Proofs.YtjbomaihabldjaaDoor
