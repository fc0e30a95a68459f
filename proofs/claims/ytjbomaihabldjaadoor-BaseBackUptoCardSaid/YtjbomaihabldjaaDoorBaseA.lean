/-
  Walks of the layer base: the builder, the letters.
-/
import Derived.Test.YtjbomaihabldjaaDoorShelf
import Derived.Test.YtjbomaihabldjaaDoorMore
import Derived.Test.YtjbomaihabldjaaDoorDig
import Derived.Laws.CopyOwn
import Derived.BigRegion
import Derived.WalkSmall
import Derived.StillTailTactics
set_option linter.unusedSimpArgs false
set_option linter.unusedVariables false
namespace Go.Cv.Base
open Go.RowKit
/-- The letters of an alphabet. -/
def alph : Bool → ByteArray
  | true => ⟨#[65, 66, 67, 68, 69, 70, 71, 72, 73, 74, 75, 76, 77, 78, 79, 80, 81, 82, 83, 84, 85, 86, 87, 88, 89, 90, 97, 98, 99, 100, 101, 102, 103, 104, 105, 106, 107, 108, 109, 110, 111, 112, 113, 114, 115, 116, 117, 118, 119, 120, 121, 122, 48, 49, 50, 51, 52, 53, 54, 55, 56, 57, 45, 95]⟩
  | false => ⟨#[65, 66, 67, 68, 69, 70, 71, 72, 73, 74, 75, 76, 77, 78, 79, 80, 81, 82, 83, 84, 85, 86, 87, 88, 89, 90, 97, 98, 99, 100, 101, 102, 103, 104, 105, 106, 107, 108, 109, 110, 111, 112, 113, 114, 115, 116, 117, 118, 119, 120, 121, 122, 48, 49, 50, 51, 52, 53, 54, 55, 56, 57, 43, 47]⟩
theorem alph_size (u : Bool) : (alph u).size = 64 := by cases u <;> decide +kernel
/-- A letter. -/
def L (u : Bool) (n : Nat) : UInt8 := (alph u).get! n
theorem get_lt (s : ByteArray) (i : Nat) (h : i < s.size) : s[i]'h = s.get! i := by
  show s.data[i]'h = s.data[i]!
  rw [getElem!_pos s.data i h]
theorem alph_at (u : Bool) (n : Nat) (h : n < (alph u).size) : (alph u)[n]'h = L u n := get_lt (alph u) n h
/-- The text of some bytes, three by three. -/
def enc (u : Bool) : List UInt8 → List UInt8
  | a :: b :: c :: r => L u (a.toNat / 4) :: L u (a.toNat % 4 * 16 + b.toNat / 16) :: L u (b.toNat % 16 * 4 + c.toNat / 64) :: L u (c.toNat % 64) :: enc u r
  | [a, b] => [L u (a.toNat / 4), L u (a.toNat % 4 * 16 + b.toNat / 16), L u (b.toNat % 16 * 4)]
  | [a] => [L u (a.toNat / 4), L u (a.toNat % 4 * 16)]
  | [] => []
theorem enc_len (u : Bool) : ∀ l, 3 * (enc u l).length ≤ 4 * l.length + 6
  | a :: b :: c :: r => by have := enc_len u r; simp only [enc, List.length_cons]; omega
  | [a, b] => by simp [enc]
  | [a] => by simp [enc]
  | [] => by simp [enc]
end Go.Cv.Base
namespace Go.Proofs.YtjbomaihabldjaaDoor
open Go.RowKit Go.Cv Go.Cv.Base Go.Cv.Dig
open Go.Shelf
theorem u8rowU : RowT Tryd.prog 22 5 1 := RowT.of (z := .int .u8 0) Tryd.underlying22 (by kernel_rfl) rfl
theorem rd_new_list (w : World) (xs : List Value) (t : TypeId) : Rd (w.alloc (.cells xs.toArray t)) (some ⟨w.heap.size, 0, none⟩) xs := Rd.of_cells fun j u hu => by
  rw [show (Addr.add ⟨w.heap.size, 0, none⟩ j) = ⟨w.heap.size, j, none⟩ from by unfold Addr.add; split <;> simp_all]
  rw [World.cell?_alloc_at _ _ _ _ rfl]
  simpa using hu
def renB : Go.Shelf.Ren := ⟨fun n => n, fun | 5 => 5 | 72 => 40 | n => n, fun n => n⟩
theorem extraB : Builder.Extra Tryd.prog renB := {
  sizeBuilder := by kernel_rfl
  liesBuilder := by kernel_rfl
  t5 := Tryd.underlying5
  a5 := Tryd.isAgg5
  z5 := Tryd.sizeOf5
  v5 := Tryd.zeroValue5
  infoByte := by kernel_rfl
  cellsByte := by kernel_rfl
  sizeByte := by kernel_rfl
  neB5 := by decide }
/-- The builder that the call has made, behind its first writing. -/
def Bld (w : World) (B b : Nat) (bs : List Value) : Prop := Lib.IsBuilderF 40 5 B b bs w
set_option maxRecDepth 100000 in
theorem cc_fresh (b : Nat) (w : World) (h0 : w.cell? ⟨b, 0, none⟩ = some (.pointer none)) (hsh : w.shape? b = some (40, 2)) (hfz : w.frozen? ⟨b, 0, none⟩ = false) :
    Calls Tryd.prog 21 #[.pointer (some ⟨b, 0, none⟩)] w fun e w' => e = .returned (.tuple #[]) ∧ w' = w.setCell ⟨b, 0, none⟩ (.pointer (some ⟨b, 0, none⟩)) := by
  obtain ⟨j, hj, hjs⟩ := Option.map_eq_some_iff.1 extraB.sizeBuilder
  have hj' : Tryd.prog.info? 40 = some j := hj
  have hlies : liesAt Tryd.prog Tryd.prog.depth 40 (2 / Tryd.prog.cellsOf 40) 0 40 1 = true := extraB.liesBuilder
  go_enter Tryd.func21, Tryd.ntmps21
  go_wp2
  rw [Lib.run_to_unsafe w ⟨b, 0, none⟩ Tryd.underlying38 Tryd.underlying56 hj' (by rw [hjs]; decide) hsh (Nat.zero_lt_succ 1)]
  simp only [Result.andThen]
  rw [Oper.upon_value]
  go_wp2
  rw [run_callFunc_extern Tryd.func29 (by kernel_rfl) (by kernel_rfl) (by kernel_rfl) (e := Extern.AbiNoEscape.same) (by kernel_rfl)]
  rw [Lib.run_noEscape]
  simp only [Result.andThen]
  rw [Oper.upon_value]
  go_wp2
  rw [Lib.run_from_unsafe w ⟨b, 0, none⟩ Tryd.underlying56 Tryd.underlying38 hj' hsh hlies]
  simp only [Result.andThen]
  rw [Oper.upon_value]
  go_wp2
  go_end0
  exact ⟨rfl, rfl⟩
set_option maxRecDepth 100000 in
theorem cc_used (b : Nat) (w : World) (h0 : w.cell? ⟨b, 0, none⟩ = some (.pointer (some ⟨b, 0, none⟩))) :
    Calls Tryd.prog 21 #[.pointer (some ⟨b, 0, none⟩)] w fun e w' => e = .returned (.tuple #[]) ∧ w' = w := by
  obtain ⟨j, hj, hjs⟩ := Option.map_eq_some_iff.1 extraB.sizeBuilder
  have hj' : Tryd.prog.info? 40 = some j := hj
  go_enter Tryd.func21, Tryd.ntmps21
  go_wp2
  rw [Lib.run_neq_ptr_same w _ Tryd.underlying38 hj']
  go_wp2
  go_end0
  exact ⟨rfl, rfl⟩
theorem copycheck (B b : Nat) (bs : List Value) (w : World) (h : Lib.IsBuilderF 40 5 B b bs w) :
    Calls Tryd.prog 21 #[.pointer (some ⟨b, 0, none⟩)] w fun e w' => e = .returned (.tuple #[]) ∧ Lib.BuilderAtF 40 5 B b (.pointer (some ⟨b, 0, none⟩)) bs w' ∧ Below B w w' ∧ ∀ k, k ≠ b → w'.heap[k]? = w.heap[k]? := by
  rcases h with h | h
  · refine (cc_fresh b w h.cell0 h.shape h.frozen0).mono ?_
    rintro e w' ⟨rfl, rfl⟩
    exact ⟨rfl, h.used _, (Below.refl B w).setCell (p := ⟨b, 0, none⟩) h.1 _, fun k hk => Below.heap_setCell _ _ _ _ (fun e => hk e)⟩
  · refine (cc_used b w h.cell0).mono ?_
    rintro e w' ⟨rfl, rfl⟩
    exact ⟨rfl, h, Below.refl B _, fun _ _ => rfl⟩
set_option maxRecDepth 100000 in
set_option maxHeartbeats 4000000 in
theorem bldwrite (B b : Nat) (bs : List Value) (ad : Addr) (m c : Nat) (l : List UInt8) (w : World) (h : Bld w B b bs) (hm : l.length = m) (hr : Rd w (some ad) (l.map bv)) (hadB : ad.block ≠ b) (hlen : bs.length + m ≤ 140737488355328) (hBw : B ≤ w.heap.size) :
    Calls Tryd.prog 14 #[.pointer (some ⟨b, 0, none⟩), .slice (some ad) m c] w fun e w' => e = .returned (.tuple #[.int .i64 m, .nilIface]) ∧ Bld w' B b (bs ++ l.map bv) ∧ Below B w w' := by
  obtain ⟨i0, hi, hz0, hz1, hz2⟩ := info_parts extraB.infoByte
  have hcc := copycheck B b bs w h
  go_enter Tryd.func14, Tryd.ntmps14
  go_wp2_with (go_at_call 21; with_reducible refine hcc.mono ?_)
  rintro e w1 ⟨rfl, h1, hb1, hk1⟩
  obtain ⟨hB, v, hbk, hown, hne⟩ := h1
  obtain ⟨ao, cap, rfl⟩ : ∃ ao cap, v = .slice ao bs.length cap := by
    rcases hown.2 with ⟨hv, h0⟩ | ⟨g, cap, cur, fz, hv, _⟩
    · exact ⟨none, 0, by rw [hv, h0]⟩
    · exact ⟨_, _, hv⟩
  have c0 : w1.cell? ⟨b, 0, none⟩ = some (.pointer (some ⟨b, 0, none⟩)) := by rw [Lib.cell_of_heap hbk]; rfl
  have c1 : w1.cell? ⟨b, 1, none⟩ = some (.slice ao bs.length cap) := by rw [Lib.cell_of_heap hbk]; rfl
  have hr1 : ∀ j u, (l.map bv)[j]? = some u → w1.cell? (ad.add j) = some u := fun j u hu => by
    obtain ⟨ad', e, hc⟩ := hr j u hu
    injection e with e
    subst e
    rw [← hc]
    have hbl : (ad.add j).block ≠ b := by
      have e2 : (ad.add j).block = ad.block := by unfold Addr.add; split <;> rfl
      rw [e2]; exact hadB
    unfold World.cell?
    rw [hk1 _ hbl]
  go_wp2_with (at_builtin; refine wpList_append_ownF _ rfl _ _ 22 rfl B 5 i0 (.int .u8 0) 1 1 Tryd.underlying22 hi hz0 hz1 hz2 rfl (by decide) _ bs.length bs rfl hown ad m c (l.map bv) rfl ?c1 hr1 (one_map_bv l) ?c3 ?c4 ?c5 ?_)
  case c1 => rw [List.length_map, hm, Nat.mul_one]
  case c3 => unfold maxLen; omega
  case c4 => omega
  case c5 => have := hb1.size; omega
  intro v' w2 hown' hgrow _
  have hlt : b < w1.heap.size := by
    rcases Nat.lt_or_ge b w1.heap.size with h' | h'
    · exact h'
    · simp [Array.getElem?_eq_none h'] at hbk
  have hb2 : w2.heap[b]? = some (.cells #[.pointer (some ⟨b, 0, none⟩), .slice ao bs.length cap] 40 (0, 0)) := by
    rw [hgrow.block b hlt (fun e => hne e.symm)]
    exact hbk
  have d0 : w2.cell? ⟨b, 0, none⟩ = some (.pointer (some ⟨b, 0, none⟩)) := by rw [Lib.cell_of_heap hb2]; rfl
  have d1 : w2.cell? ⟨b, 1, none⟩ = some (.slice ao bs.length cap) := by rw [Lib.cell_of_heap hb2]; rfl
  have f1 : w2.frozen? ⟨b, 1, none⟩ = false := Lib.frozen_of_heap hb2 1
  obtain ⟨a2, n2, c2, rfl⟩ : ∃ a2 n2 c2, v' = .slice a2 n2 c2 := by
    rcases hown'.2 with ⟨hv, _⟩ | ⟨g, cap', cur, fz, hv, _⟩
    · exact ⟨_, _, _, hv⟩
    · exact ⟨_, _, _, hv⟩
  go_wp2
  go_ret2
  refine ⟨rfl, .inr ?_, ?_⟩
  · exact Lib.BuilderAtF.put (T := 40) (e := 5) hB hb2 (bs' := bs ++ l.map bv) (by simpa [hm] using hown') (by decide)
  · exact (hb1.grown hgrow (by have := hb1.size; omega) (fun k hk => (hown.lt k hk).1)).setCell (p := ⟨b, 1, none⟩) hB _
theorem bldstring (B b : Nat) (l : List UInt8) (w : World) (h : Bld w B b (Lib.byteCells l)) (hBw : B ≤ w.heap.size) :
    Calls Tryd.prog 15 #[.pointer (some ⟨b, 0, none⟩)] w fun e w' => e = .returned (.string ⟨l.toArray⟩) ∧ Below B w w' :=
  (Any.Builder_String_any_k Tryd.lays169 Tryd.Builder_Extra_169 B b l w h hBw).mono fun _ _ ⟨h1, _, h2, _⟩ => ⟨h1, h2⟩
/-- The builder at the start, empty. -/
theorem bld_start (w : World) : Bld (w.alloc (.cells #[.pointer none, .slice none 0 0] 40)) w.heap.size w.heap.size [] := by
  refine .inl ⟨Nat.le_refl _, .slice none 0 0, ?_, ⟨rfl, .inl ⟨rfl, rfl⟩⟩, by simp [Value.ownBlock]⟩
  show (w.heap.push _)[w.heap.size]? = _
  simp
theorem letters_any (u : Bool) (w : World) :
    Calls Tryd.prog 13 #[.bool u] w fun e w' => e = .returned (.string (alph u)) ∧ w' = w := by
  cases u
  all_goals
    go_enter Tryd.func13, Tryd.ntmps13
    go_wp2
    go_ret
    exact ⟨rfl, rfl⟩
end Go.Proofs.YtjbomaihabldjaaDoor
