/-
  Walks of the laws' helpers: own, and what is written over.
-/
import Derived.Test.YtjnbbfhoegeppaaGreatDoorMKxC
set_option linter.unusedSimpArgs false
set_option linter.unusedVariables false
namespace Go.Proofs.YtjnbbfhoegeppaaGreatDoor
open Go.RowKit Go.Cv Go.Cv.Dk Go.Cv.Wal Go.Cv.Kv
/-- Blocks of bytes that may be written. -/
def Zb (w : World) (A : Option Addr) : Prop := ∀ y ∈ rowOf A, ∃ cs, Row w y 5 cs
theorem zkeep1 {w w' : World} {A : Option Addr} {bs : List Nat} (hz : Zb w A) (hk : Keep bs w w') (hb : ∀ b ∈ bs, ∃ T, T ≠ 5 ∧ Ty w b T) : Zb w' A := fun y hy => by
  obtain ⟨cs, hr⟩ := hz y hy
  exact ⟨cs, hr.keep hk fun hm => by
    obtain ⟨T, hT, hty⟩ := hb y hm
    exact hT (hty.uniq (Ty.of_row hr))⟩
theorem Zb.ext {w w' : World} {A : Option Addr} (hz : Zb w A) (hx : Ext w w') : Zb w' A := zkeep1 hz (Keep.of_ext (bs := []) hx) (by simp)
theorem own_z {w : World} {base n c : Nat} {A : Option Addr} {xs : List Value} (h : w.ownsRow base 5 1 (.slice A n c) n xs) : Zb w A := fun y hy => by
  rcases h.2 with ⟨h0, _⟩ | ⟨g', cap, cur, hv, hb, hg, _⟩
  · injection h0 with e1
    subst e1
    cases hy
  · injection hv with e1
    subst e1
    simp [rowOf] at hy
    subst hy
    exact ⟨cur.toList, by simpa [Row] using hg⟩
structure OWz (w wr : World) (T : Option Addr) (k c' : Nat) (L : List WV) : Prop where
  st : OWst w wr T k c' L
  z : ∀ x ∈ L, Zb wr x.A
section
variable {w wr wr' : World} {T : Option Addr} {k c' : Nat} {L : List WV}
theorem OWz.own (h : OWz w wr T k c' L) : wr.ownsRow w.heap.size 45 3 (.slice T k c') k (L.flatMap WV.cells) := h.st.own
theorem OWz.V (h : OWz w wr T k c' L) : ∀ x ∈ L, VOk wr w.heap.size x := h.st.V
theorem OWz.E (h : OWz w wr T k c' L) : Ext w wr := h.st.E
theorem OWz.ext (h : OWz w wr T k c' L) (hx : Ext wr wr') : OWz w wr' T k c' L := ⟨h.st.ext hx, fun x hm => (h.z x hm).ext hx⟩
theorem OWz.box {bx i : Nat} {cs : List Value} {v : Value} (h : OWz w wr T k c' L) (hrow : Row wr bx 45 cs) (hb : w.heap.size ≤ bx) (hT : bx ∉ rowOf T) : OWz w (wr.setCell ⟨bx, i, none⟩ v) T k c' L :=
  ⟨h.st.box hrow hb hT, fun x hx => zkeep1 (h.z x hx) (Keep.setCell wr ⟨bx, i, none⟩ v) fun y hy => by
    rw [List.mem_singleton.1 hy]
    exact ⟨_, by decide, Ty.of_row hrow⟩⟩
theorem OWz.push {w6 w7 w8 : World} {T8 : Option Addr} {c8 : Nat} {x : WV} (h : OWz w w6 T k c' L) (hx : VOk w6 w.heap.size x) (hz : Zb w6 x.A) (h67 : Ext w6 w7) (hk : Keep (rowOf T) w7 w8)
    (ho : w8.ownsRow w.heap.size 45 3 (.slice T8 (k + 1) c8) (k + 1) (L.flatMap WV.cells ++ x.cells)) : OWz w w8 T8 (k + 1) c8 (L ++ [x]) := by
  have h7 := h.ext h67
  have hty : ∀ y ∈ rowOf T, ∃ U, U ≠ 5 ∧ Ty w7 y U := fun y hy => ⟨45, by decide, row_ty h7.own y hy⟩
  refine ⟨h.st.push hx h67 hk ho, fun z hm => ?_⟩
  rcases List.mem_append.1 hm with hm | hm
  · exact zkeep1 (h7.z z hm) hk hty
  · rw [List.mem_singleton.1 hm]
    exact zkeep1 (hz.ext h67) hk hty
end
/-- What own gives. -/
def Owned2 (w : World) (W : List WV) (e : Ending) (w' : World) : Prop :=
  ∃ T c L, e = .returned (.slice T W.length c) ∧ OWz w w' T W.length c L ∧ L.map WV.pw = W.map WV.pw ∧ L.length = W.length
set_option maxRecDepth 4000 in
set_option maxHeartbeats 6400000 in
theorem own2_any (A : Option Addr) (c : Nat) (W : List WV) (w : World) (hW : WsAt w A W) (hn : W.length ≤ 1048576) :
    Calls Tryz.prog 10 #[.slice A W.length c] w (Owned2 w W) := by
  refine calls_hid fun G hG => ?_
  go_enter Tryz.func10, Tryz.ntmps10
  go_wp2
  go_loopw [3, 4] (fun t i wr => ∃ (k c' : Nat) (T : Option Addr) (L : List WV), k ≤ W.length ∧ i = .int .i64 k ∧ t = .slice T k c' ∧ Hid (OWz w wr T k c' L) ∧ Hid (L.map WV.pw = (W.take k).map WV.pw)) (fun _ i _ => W.length - (intOf i).toNat)
  case atStart => exact ⟨0, 0, none, [], Nat.zero_le _, rfl, rfl, Lib.hid ⟨⟨World.ownsRow_nil _ _ _ _, by simp, Ext.refl w⟩, by simp⟩, Lib.hid rfl⟩
  case round =>
    obtain ⟨k, c', T, L, hk, rfl, rfl, hO, hM⟩ := hrel
    have hE := hO.out.E
    by_cases hlt : k < W.length
    · obtain ⟨ad, rfl, p0, p1, p2⟩ := (hW.ext hE).at hlt
      have hx := (hW.ok _ (List.getElem_mem hlt)).ext hE
      have hMn : (W.take (k + 1)).map WV.pw = (W.take k).map WV.pw ++ [W[k].pw] := by
        rw [List.take_succ_eq_append_getElem hlt, List.map_append]; rfl
      generalize W[k] = x at *
      have hkb := hx.kb
      have hvb := hx.vb
      have hB : Row (wr.alloc (.cells #[.string x.k, .slice x.A x.v.length x.c, .bool x.d] 45)) wr.heap.size 45 [.string x.k, .slice x.A x.v.length x.c, .bool x.d] := Row.alloc wr _ _
      have hx1 := ext_alloc wr (.cells #[.string x.k, .slice x.A x.v.length x.c, .bool x.d] 45)
      have hO1 := hO.out.ext hx1
      have hr1 := hx.rd.ext hx1
      have hbT : wr.heap.size ∉ rowOf T := fun hm => by have := row_lt hO.out.own _ hm; omega
      have hws := hE.size
      replace hMn := Lib.hid hMn
      replace hE := Lib.hid hE
      replace hx := Lib.hid hx
      go_wp2_with (first
        | (at_builtin; refine wpList_appS rfl (.tmp 17) (.tmp 19) 43 5 rfl u8rowD wr.heap.size none 0 0 [] rfl (World.ownsRow_nil _ _ _ _) x.A x.v.length x.c x.v rfl rfl hr1 (by omega) hx1.size ?_; intro A5 c5 w5 ho5 hS5; have hx5 : Ext (wr.alloc (.cells #[.string x.k, .slice x.A x.v.length x.c, .bool x.d] 45)) w5 := ext_keep (Ext.refl _) hS5.k (by simp [rowOf]); have hO5 := hO1.ext hx5; have hB5 := hB.ext hx5; have g0 : w5.cell? ⟨wr.heap.size, 0, none⟩ = some (.string x.k) := hB5.cell (i := 0) (by simp); have g1 : w5.cell? ⟨wr.heap.size, 1, none⟩ = some (.slice x.A x.v.length x.c) := hB5.cell (i := 1) (by simp); have g2 : w5.cell? ⟨wr.heap.size, 2, none⟩ = some (.bool x.d) := hB5.cell (i := 2) (by simp); have gf := hB5.fro 1; have hO6 := hO5.box (i := 1) (v := .slice A5 x.v.length c5) hB5 hws hbT)
        | (at_builtin; refine wpList_appfam rfl (.tmp 23) (.tmp 25) 32 45 3 48 rfl writeRow w.heap.size T k c' _ rfl (hO6.ext (ext_alloc _ _)).own ⟨w5.heap.size, 0, none⟩ 1 1 [.string x.k, .slice A5 x.v.length c5, .bool x.d] rfl rfl (rd_list' _ _ _ (by simp)) (by intro u hu; simp at hu; rcases hu with rfl | rfl | rfl <;> rfl) (by unfold maxLen; omega) (by omega) (hO6.ext (ext_alloc _ _)).E.size ?_; intro T8 c8 w8 ho8 hk8 hn8))
      rw [Nat.zero_add, List.nil_append] at ho5
      have hV := (vok_of (w0 := w) ho5 hws x.k x.d hkb hvb).keep (Keep.setCell w5 ⟨wr.heap.size, 1, none⟩ (.slice A5 x.v.length c5)) (fun y hy => ⟨45, by decide, by have := List.mem_singleton.1 hy; subst this; exact Ty.of_row hB5⟩)
      have hZ := zkeep1 (own_z ho5) (Keep.setCell w5 ⟨wr.heap.size, 1, none⟩ (.slice A5 x.v.length c5)) (fun y hy => ⟨45, by decide, by have := List.mem_singleton.1 hy; subst this; exact Ty.of_row hB5⟩)
      have hfin := hO6.push hV hZ (ext_alloc _ _) hk8 ho8
      go_roundw
      case rel => exact ⟨k + 1, c8, T8, _, hlt, by go_num, rfl, Lib.hid hfin, Lib.hid (by rw [hMn.out, List.map_append, hM.out]; rfl)⟩
      case measure => simp [intOf]; omega
    · obtain rfl : k = W.length := by omega
      rw [List.take_length] at hM
      have hgg := Lib.hid (hG.out _ wr ⟨T, c', L, rfl, hO.out, hM.out, by have := congrArg List.length hM.out; simpa using this⟩)
      go_wp2
      exact hgg.out
end Go.Proofs.YtjnbbfhoegeppaaGreatDoor
