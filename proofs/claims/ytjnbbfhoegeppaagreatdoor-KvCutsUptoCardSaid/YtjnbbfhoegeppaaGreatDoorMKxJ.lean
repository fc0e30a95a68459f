/-
  The laws' states where the power may go.
-/
import Derived.Test.YtjnbbfhoegeppaaGreatDoorMKxG
import Derived.Test.YtjnbbfhoegeppaaGreatDoorMKxI
set_option linter.unusedSimpArgs false
set_option linter.unusedVariables false
namespace Go.Proofs.YtjnbbfhoegeppaaGreatDoor
open Go.RowKit Go.Cv Go.Cv.Dk Go.Cv.Wal Go.Cv.Kv
/-- The disk and what the answer has (twice), whatever the power does. -/
structure LV (w0 w : World) (B d rb : Nat) (S : DS) (Kr : KS) (C : Nat) (bs : List Nat) : Prop where
  r : Rto w rb Kr bs
  x : Ext w0 w
  hB : w0.heap.size ≤ B
  hrb : w0.heap.size ≤ rb
  ge : ∀ y ∈ bs, B ≤ y ∧ y < w.heap.size
  room : S.room = 1099511627776
  C : C ≤ 6291456
section
variable {w0 w w' : World} {B d s rb ra : Nat} {S : DS} {K K2 Kr : KS} {C : Nat} {bs cs : List Nat}
theorem LV.ext (h : LV w0 w B d rb S Kr C bs) (hx : Ext w w') : LV w0 w' B d rb S Kr C bs := ⟨h.r.ext hx, h.x.trans hx, h.hB, h.hrb, fun x hm => ⟨(h.ge x hm).1, Nat.lt_of_lt_of_le (h.ge x hm).2 hx.size⟩, h.room, h.C⟩
theorem LV.move {S' : DS} {C' : Nat} {bs' : List Nat} (h : LV w0 w B d rb S Kr C bs) (hs : Stp bs bs' w w') (hg : ∀ x ∈ bs', B ≤ x ∧ x < w'.heap.size) (hr : S'.room = S.room) (hC : C' ≤ 6291456) : LV w0 w' B d rb S' Kr C' bs' :=
  ⟨h.r.step hs, ext_keep h.x hs.k fun x hx => Nat.le_trans h.hB (h.ge x hx).1, h.hB, h.hrb, hg, hr.trans h.room, hC⟩
/-- A copy of the answer's store. -/
theorem Rto.copy (h : Rto w rb K bs) (hb : ∀ x ∈ bs, x < w.heap.size) : ∃ T n c, w.cell? ⟨rb, 0, none⟩ = some (.slice T n c) ∧ w.cell? ⟨rb, 1, none⟩ = some (.int .i64 K.n) ∧ Rto (w.alloc (.cells #[.slice T n c, .int .i64 K.n] 31)) w.heap.size K bs := by
  obtain ⟨T, c, L, h1, h2⟩ := h
  have hx := ext_alloc w (.cells #[.slice T L.length c, .int .i64 K.n] 31)
  refine ⟨T, L.length, c, h1.row.cell (i := 0) (by simp), h1.row.cell (i := 1) (by simp), T, c, L, ⟨Row.alloc w [.slice T L.length c, .int .i64 K.n] _, (h1.ext hx).rd, (h1.ext hx).val, h1.ls, h1.ris⟩, ⟨fun hm => by have := hb _ hm; omega, h2.t, h2.v⟩⟩
theorem opens_two {S : DS} {K : KS} {C : Nat} (hu : Up S K C) (hC : C ≤ 134217728) :
    (∀ w bs, Dsk w B d S bs → Calls Tryz.prog 19 #[.pointer (some ⟨d, 0, none⟩)] w (Opn w B d S K C bs)) ∨
    (S.bud ≠ -1 ∧ ∃ S', Dn S' K K C ∧ S'.room = S.room ∧ ∀ w bs, Dsk w B d S bs → Calls Tryz.prog 19 #[.pointer (some ⟨d, 0, none⟩)] w fun e w' => e = .returned (.tuple #[.pointer none, .iface 48 (.int .i64 11)]) ∧ DN w B d bs S' w') := by
  obtain ⟨K0, R, h1, h2, h3, h4, h5, h6⟩ := hu.opens (bump := wrap64) hC
  rcases h6 with ⟨h7, h8, h9⟩ | ⟨h7, h8, hb1, h9⟩
  · exact .inr ⟨h8, _, h9, h5, fun w bs h => kopen_rem B d S K0 bs w h h1 h2 h3 h7⟩
  · rcases h9 with ⟨h10, rfl, h11⟩ | ⟨h10, rfl, h11, h12⟩
    · exact .inl fun w bs h => (kopen_main B d S _ K0 bs [] w h h1 h2 h3 h7 (.inl ⟨h10, rfl, rfl⟩) h8).mono fun e w' x => opn_of (h4 ▸ x) h11 h5 hb1
    · rcases h12 with ⟨h13, h14, h15⟩ | ⟨h13, h14, h15⟩
      · exact .inl fun w bs h => (kopen_main B d S _ K0 bs _ w h h1 h2 h3 h7 (.inr ⟨h10, rfl, rfl, h13⟩) h8).mono fun e w' x => opn_of (h4 ▸ x) h14 h11 h15
      · exact .inr ⟨h14, _, h15, h11, fun w bs h => kopen_log B d S K0 bs w h h1 h2 h3 h7 h10 h8 h13⟩
end
end Go.Proofs.YtjnbbfhoegeppaaGreatDoor
