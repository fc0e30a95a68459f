/-
  The head of all statements of layer 4, and the walks of the three statements.
-/
import Derived.Test.YtjbomaihabldjaaDoorBaseF
import Derived.Test.YtjbomaihabldjaaDoorBaseIs
import Derived.Test.YtjbomaihabldjaaDoorArgs
set_option linter.unusedSimpArgs false
set_option linter.unusedVariables false
namespace Go.Proofs.YtjbomaihabldjaaDoor
open Go.RowKit Go.Cv Go.Cv.Base Go.Cv.Dig
/-- errors.errorType as the program lays it. -/
def ET (w : World) : Prop := w.cell? ⟨0, 0, none⟩ = some (.iface 72 (.agg #[.pointer (some ⟨2, 28, none⟩)]))
theorem enc_1 (w : World) :
    Calls Tryd.prog 7 #[.slice (some ⟨w.heap.size, 0, none⟩) 2 2, .bool false] (w.alloc (.cells #[.int .u8 251, .int .u8 255] 5)) fun e w' => e = .returned (.string ⟨#[43, 47, 56]⟩) ∧ Ext w w' := by
  refine (encode_any false (some ⟨w.heap.size, 0, none⟩) 2 2 [251, 255] (w.alloc (.cells #[.int .u8 251, .int .u8 255] 5)) rfl (Nat.le_refl _) (rd_new_list w [.int .u8 251, .int .u8 255] _) (by decide)).mono ?_
  rintro e w' ⟨rfl, hx⟩
  refine ⟨?_, (ext_alloc _ _).trans hx⟩
  rw [show enc false [251, 255] = [43, 47, 56] from by decide +kernel]
theorem all_let (u : Bool) (s : ByteArray) (h : ∀ c ∈ s.data.toList, 0 ≤ wI u c) : ∀ i, (hi : i < s.size) → 0 ≤ wI u (s[i]'hi) := fun i hi => h _ (by
  show s.data[i] ∈ s.data.toList
  simp)
theorem dec_1 (w : World) :
    Calls Tryd.prog 10 #[.string ⟨#[89, 87, 74, 106]⟩, .bool true] w fun e w' => ∃ A n c, e = .returned (.tuple #[.slice A n c, .nilIface]) ∧ n = 3 ∧ Rd w' A (([97, 98, 99] : List UInt8).map bv) ∧ Ext w w' := by
  refine (decode_ok true ⟨#[89, 87, 74, 106]⟩ (all_let _ _ (by decide +kernel)) w (by decide)).mono ?_
  rintro e w' (⟨d, v, hd, rfl, ⟨A, n, c, rfl, hn, hc, hr⟩, hx⟩ | ⟨hd, -⟩)
  · rw [show dec (vals true ⟨#[89, 87, 74, 106]⟩) = some [97, 98, 99] from by decide +kernel] at hd
    injection hd with hd
    subst hd
    exact ⟨A, n, c, rfl, hn.symm, hr, hx⟩
  · rw [show dec (vals true ⟨#[89, 87, 74, 106]⟩) = some [97, 98, 99] from by decide +kernel] at hd
    cases hd
theorem dec_2 (w : World) :
    Calls Tryd.prog 10 #[.string ⟨#[65, 66]⟩, .bool false] w fun e w' => ∃ b, e = .returned (.tuple #[.slice none 0 0, .iface 48 (.pointer (some ⟨b, 0, none⟩))]) ∧ w'.cell? ⟨b, 0, none⟩ = some (.int .i64 1) ∧ w'.cell? ⟨b, 1, none⟩ = some (.iface 34 (.int .i64 3)) ∧ Ext w w' := by
  refine (decode_ok false ⟨#[65, 66]⟩ (all_let _ _ (by decide +kernel)) w (by decide)).mono ?_
  rintro e w' (⟨d, v, hd, -⟩ | ⟨hd, b, h1, h2, h3, h4⟩)
  · rw [show dec (vals false ⟨#[65, 66]⟩) = none from by decide +kernel] at hd
    cases hd
  · exact ⟨b, h1, h2, h3, h4⟩
set_option maxRecDepth 10000 in
set_option maxHeartbeats 8000000 in
theorem shown_any (w : World) (hT : ET w) :
    Calls Tryd.prog 6 #[] w fun e w' => e = .returned (.bool true) ∧ Ext w w' := by
  have he := enc_1 w
  have hT0 : w.cell? ⟨0, 0, none⟩ = some (.iface 72 (.agg #[.pointer (some ⟨2, 28, none⟩)])) := hT
  go_enter Tryd.func6, Tryd.ntmps6
  go_wp2_with (first
    | (go_at_call 7; with_reducible refine he.mono ?_; rintro e w1 ⟨rfl, hx1⟩)
    | (go_at_call 10; with_reducible refine (dec_1 _).mono ?_; rintro e w2 ⟨A, n, c, rfl, rfl, hr, hx2⟩)
    | (go_at_call 10; with_reducible refine (dec_2 _).mono ?_; rintro e w3 ⟨b, rfl, hc0, hc1, hx3⟩)
    | (go_at_call 12; with_reducible refine (isat_any b 1 3 _ (Ext.cell (hx1.trans (hx2.trans hx3)) hT0) hc0 hc1).mono ?_; rintro e w4 ⟨rfl, hx4⟩; have hcv := run_convert_rd (P := Tryd.prog) w4 22 9 5 Tryd.underlying22 Tryd.underlying5 Tryd.underlying9 A 3 c [97, 98, 99] rfl (hr.ext (hx3.trans hx4))))
  go_ret
  exact ⟨by first | rfl | simp, hx1.trans (hx2.trans (hx3.trans hx4))⟩
set_option maxRecDepth 10000 in
set_option maxHeartbeats 8000000 in
theorem encodes_any (A : Option Addr) (n cap : Nat) (l : List UInt8) (u : Bool) (w : World) (hT : ET w) (hl : ArgB w A n cap l) (bnd : cap ≤ 1048576) :
    Calls Tryd.prog 3 #[.slice A n cap, .bool u] w fun e w' => e = .returned (.bool true) ∧ Ext w w' := by
  have hs := shown_any w hT
  have hle := hl.le
  have hn2 : n ≤ 2000000 := by omega
  have hlen := hl.len
  have hr := hl.rd
  have hre := refencode_any u A n cap l
  rw [fold_enc u l [], List.nil_append] at hre
  have hsame := fun A2 c2 w h => same_any A2 n c2 l A n cap l w hlen h hlen
  rw [decide_eq_true (show l = l from rfl)] at hsame
  go_enter Tryd.func3, Tryd.ntmps3
  go_wp2_with (first
    | (go_at_call 6; with_reducible refine hs.mono ?_; rintro e w1 ⟨rfl, hx1⟩)
    | (at_builtin; refine wpList_appb0 rfl (.tmp 10) (.tmp 11) 22 5 rfl u8rowU rfl A n cap l rfl hlen (hr.ext hx1) (by omega) ?_; intro A2 c2 w2 ho2 hc2 hm2 hr2 hx2)
    | (go_at_call 7; with_reducible refine (encode_any u A2 n c2 l _ hlen hc2 hr2 hn2).mono ?_; rintro e w3 ⟨rfl, hx3⟩)
    | (go_at_call 8; with_reducible refine (hsame A2 c2 _ (hr2.ext hx3) (hr.ext (hx1.trans (hx2.trans hx3))) (by omega)).mono ?_; rintro e w4 ⟨rfl, hx4⟩)
    | (go_at_call 9; with_reducible refine (hre _ hlen (hr.ext (hx1.trans (hx2.trans (hx3.trans hx4)))) hn2).mono ?_; rintro e w5 ⟨rfl, hx5⟩))
  go_ret
  exact ⟨by first | rfl | simp, hx1.trans (hx2.trans (hx3.trans (hx4.trans hx5)))⟩
theorem encodes_w (A : Option Addr) (n cap : Nat) (l : List UInt8) (u : Bool) (w : World) (hT : ET w) (hl : ArgB w A n cap l) (bnd : cap ≤ 1048576) :
    Calls Tryd.prog 3 #[.slice A n cap, .bool u] w fun e w' => e = .returned (.bool true) ∧ Ext w w' := encodes_any A n cap l u w hT hl bnd
/-- Decode of a text that isn't read: the fault, and its place. -/
def BadRes (w : World) (p : Nat) (e : Ending) (w' : World) : Prop := ∃ b, e = .returned (.tuple #[.slice none 0 0, .iface 48 (.pointer (some ⟨b, 0, none⟩))]) ∧ w'.cell? ⟨b, 0, none⟩ = some (.int .i64 (p : Int)) ∧ w'.cell? ⟨b, 1, none⟩ = some (.iface 34 (.int .i64 3)) ∧ Ext w w'
theorem all_list (u : Bool) (s : ByteArray) (h : ∀ i, (hi : i < s.size) → 0 ≤ wI u (s[i]'hi)) : ∀ c ∈ s.data.toList, 0 ≤ wI u c := fun c hc => by
  obtain ⟨i, hi, rfl⟩ := List.getElem_of_mem hc
  rw [Array.getElem_toList]
  exact h i (by rwa [Array.length_toList] at hi)
/-- A text is read by both as the same bytes, or refused by both at one place. -/
theorem decode_two (u : Bool) (s : ByteArray) (bnd : s.size ≤ 2000000) :
    (∃ d, dec (vals u s) = some d ∧ (∀ c ∈ s.data.toList, 0 ≤ wI u c) ∧
      (∀ w, Calls Tryd.prog 10 #[.string s, .bool u] w fun e w' => ∃ v, e = .returned (.tuple #[v, .nilIface]) ∧ BytesV w' v d ∧ Ext w w') ∧
      (∀ w, Calls Tryd.prog 11 #[.string s, .bool u] w fun e w' => ∃ v, e = .returned (.tuple #[v, .int .i64 (-1)]) ∧ BytesV w' v d ∧ Ext w w')) ∨
    (∃ p : Nat,
      (∀ w, Calls Tryd.prog 10 #[.string s, .bool u] w fun e w' => BadRes w p e w') ∧
      (∀ w, Calls Tryd.prog 11 #[.string s, .bool u] w fun e w' => e = .returned (.tuple #[.slice none 0 0, .int .i64 (p : Int)]) ∧ Ext w w')) := by
  rcases two_let u s with hok | ⟨m, hm, hok, hbad⟩
  · have h64 : ∀ x ∈ vals u s, x < 64 := fun x hx => by
      obtain ⟨c, hc, rfl⟩ := List.mem_map.1 hx
      exact (L_W u c (all_list u s hok c hc)).2
    obtain ⟨f1, f2⟩ := fold_dec (vals u s) [] h64
    rw [vals_len] at f1 f2
    rcases hd : dec (vals u s) with _ | d
    · have h0 : 0 < s.size := by
        rcases Nat.eq_zero_or_pos s.size with h | h
        · have : vals u s = [] := List.eq_nil_of_length_eq_zero (by rw [vals_len]; exact h)
          rw [this] at hd
          cases hd
        · exact h
      have e1 : ((s.size - 1 : Nat) : Int) = (s.size : Int) - 1 := by omega
      refine .inr ⟨s.size - 1, fun w => (decode_ok u s hok w (by omega)).mono fun e w' h => ?_, fun w => (refdec_ok u s w hok (by omega)).mono fun e w' h => ?_⟩
      · rcases h with ⟨d, v, h1, -⟩ | ⟨-, b, h1, h2, h3, h4⟩
        · rw [hd] at h1; cases h1
        · exact ⟨b, h1, by rw [e1]; exact h2, h3, h4⟩
      · rcases h with ⟨h1, h2, -⟩ | ⟨-, h1, h2⟩
        · rcases f2 hd with h | h
          · exact absurd h h1
          · exact absurd h2 h
        · exact ⟨by rw [e1]; exact h1, h2⟩
    · obtain ⟨g1, g2, g3⟩ := f1 d hd
      refine .inl ⟨d, rfl, all_list u s hok, fun w => (decode_ok u s hok w (by omega)).mono fun e w' h => ?_, fun w => (refdec_ok u s w hok (by omega)).mono fun e w' h => ?_⟩
      · rcases h with ⟨d2, v, h1, h2, h3, h4⟩ | ⟨h1, -⟩
        · rw [hd] at h1
          injection h1 with h1
          subst h1
          exact ⟨v, h2, h3, h4⟩
        · rw [hd] at h1; cases h1
      · rcases h with ⟨h1, h2, v, h3, h4, h5⟩ | ⟨h1, -⟩
        · rw [g3, List.nil_append] at h4
          exact ⟨v, h3, h4, h5⟩
        · rcases h1 with h | h
          · exact absurd h g1
          · exact absurd g2 h
  · exact .inr ⟨m, fun w => (decode_bad u s m hm hok hbad w (by omega)).mono fun e w' h => h, fun w => refdec_bad u s m w hm hok hbad (by omega)⟩
theorem dec_len : ∀ (ws : List Nat) (d : List UInt8), dec ws = some d → d.length ≤ ws.length
  | a :: b :: c :: e :: r, d, h => by
    simp only [dec] at h
    obtain ⟨t, ht, rfl⟩ := Option.map_eq_some_iff.1 h
    have := dec_len r t ht
    simp only [List.length_cons]
    omega
  | [a, b, c], d, h => by
    simp only [dec] at h
    split at h
    · injection h with h; subst h; simp
    · cases h
  | [a, b], d, h => by
    simp only [dec] at h
    split at h
    · injection h with h; subst h; simp
    · cases h
  | [a], d, h => by simp [dec] at h
  | [], d, h => by
    simp only [dec] at h
    injection h with h; subst h; simp
set_option maxRecDepth 10000 in
set_option maxHeartbeats 8000000 in
theorem decodes_any (s : ByteArray) (u : Bool) (w : World) (hT : ET w) (bnd : s.size ≤ 1048576) :
    Calls Tryd.prog 4 #[.string s, .bool u] w fun e w' => e = .returned (.bool true) ∧ Ext w w' := by
  have hs := shown_any w hT
  have hT0 : w.cell? ⟨0, 0, none⟩ = some (.iface 72 (.agg #[.pointer (some ⟨2, 28, none⟩)])) := hT
  rcases decode_two u s (by omega) with ⟨d, hd, -, h1, h2⟩ | ⟨p, h1, h2⟩
  · have hdl := dec_len _ _ hd
    rw [vals_len] at hdl
    have hsame := fun A n c B m k w a b => same_any A n c d B m k d w a b
    rw [decide_eq_true (show d = d from rfl)] at hsame
    clear hd
    have h1' : ∀ w, Calls Tryd.prog 10 #[.string s, .bool u] w fun e w' => ∃ A n c, e = .returned (.tuple #[.slice A n c, .nilIface]) ∧ d.length = n ∧ Rd w' A (d.map bv) ∧ Ext w w' := fun w => (h1 w).mono fun e w' ⟨v, g1, ⟨A, n, c, g2, g3, g4, g5⟩, g6⟩ => ⟨A, n, c, by rw [g1, g2], g3, g5, g6⟩
    have h2' : ∀ w, Calls Tryd.prog 11 #[.string s, .bool u] w fun e w' => ∃ A n c, e = .returned (.tuple #[.slice A n c, .int .i64 (-1)]) ∧ d.length = n ∧ Rd w' A (d.map bv) ∧ Ext w w' := fun w => (h2 w).mono fun e w' ⟨v, g1, ⟨A, n, c, g2, g3, g4, g5⟩, g6⟩ => ⟨A, n, c, by rw [g1, g2], g3, g5, g6⟩
    clear h1 h2
    go_enter Tryd.func4, Tryd.ntmps4
    go_wp2_with (first
      | (go_at_call 6; with_reducible refine hs.mono ?_; rintro e w1 ⟨rfl, hx1⟩)
      | (go_at_call 10; with_reducible refine (h1' _).mono ?_; rintro e w2 ⟨A2, n2, c2, rfl, hn2, hr2, hx2⟩)
      | (go_at_call 11; with_reducible refine (h2' _).mono ?_; rintro e w3 ⟨A3, n3, c3, rfl, hn3, hr3, hx3⟩)
      | (go_at_call 8; with_reducible refine (hsame A2 n2 c2 A3 n3 c3 _ hn2 (hr2.ext hx3) hn3 hr3 (by omega)).mono ?_; rintro e w4 ⟨rfl, hx4⟩))
    go_ret
    exact ⟨rfl, hx1.trans (hx2.trans (hx3.trans hx4))⟩
  · go_enter Tryd.func4, Tryd.ntmps4
    go_wp2_with (first
      | (go_at_call 6; with_reducible refine hs.mono ?_; rintro e w1 ⟨rfl, hx1⟩)
      | (go_at_call 10; (with_reducible refine (h1 _).mono ?_); rintro e w2 ⟨b, rfl, hc0, hc1, hx2⟩)
      | (go_at_call 11; with_reducible refine (h2 _).mono ?_; rintro e w3 ⟨rfl, hx3⟩)
      | (go_at_call 12; with_reducible refine (isat_any b p 3 _ (Ext.cell (hx1.trans (hx2.trans hx3)) hT0) (Ext.cell hx3 hc0) (Ext.cell hx3 hc1)).mono ?_; rintro e w4 ⟨rfl, hx4⟩))
    go_ret
    exact ⟨rfl, hx1.trans (hx2.trans (hx3.trans hx4))⟩
theorem decodes_w (s : ByteArray) (u : Bool) (w : World) (hT : ET w) (bnd : s.size ≤ 1048576) :
    Calls Tryd.prog 4 #[.string s, .bool u] w fun e w' => e = .returned (.bool true) ∧ Ext w w' := decodes_any s u w hT bnd
end Go.Proofs.YtjbomaihabldjaaDoor
