/-
  The disk: is the power on?
-/
import Derived.Test.YtjnbbfhoegeppaaGreatDoorMDkF
set_option linter.unusedSimpArgs false
set_option linter.unusedVariables false
namespace Go.Proofs.YtjnbbfhoegeppaaGreatDoor
open Go.RowKit Go.Cv Go.Cv.Dk
set_option maxHeartbeats 800000 in
theorem on_is (B d mb : Nat) (S : DS) (L : List GF) (w : World) (h : DiskAt w B d mb S L) :
    Calls Tryz.prog 30 #[.pointer (some ⟨d, 0, none⟩)] w fun e w' => e = .returned (.bool (!S.off)) ∧ w = w' := by
  have c2 : w.cell? ⟨d, 2, none⟩ = Option.some (.bool S.off) := h.row.cell (i := 2) (by simp)
  clear h
  go_enter Tryz.func30, Tryz.ntmps30
  go_wp2
  go_ret
  exact ⟨rfl, rfl⟩
theorem on_dk {B d : Nat} {S : DS} {bs : List Nat} {w : World} (h : Dsk w B d S bs) :
    Calls Tryz.prog 30 #[.pointer (some ⟨d, 0, none⟩)] w fun e w' => e = .returned (.bool (!S.off)) ∧ w = w' := by
  obtain ⟨mb, L, h, rfl⟩ := h
  exact on_is B d mb S L w h
end Go.Proofs.YtjnbbfhoegeppaaGreatDoor
