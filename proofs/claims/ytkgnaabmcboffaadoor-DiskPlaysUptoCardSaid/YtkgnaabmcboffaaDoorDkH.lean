/-
  The disk's requests, whole.
-/
import Derived.Test.YtkgnaabmcboffaaDoorDkG
set_option linter.unusedSimpArgs false
set_option linter.unusedVariables false
namespace Go.Proofs.YtkgnaabmcboffaaDoor
open Go.RowKit Go.Cv Go.Cv.Dk
/-- The disk stands so, its blocks come from bs. -/
def DN (w : World) (B d : Nat) (bs : List Nat) (S' : DS) (w' : World) : Prop := ∃ cs, Dsk w' B d S' cs ∧ Stp bs cs w w'
theorem Done.dn {w w' : World} {B d mb : Nat} {L : List GF} {S' : DS} (h : Done w B d mb L S' w') : DN w B d (foot d mb L) S' w' := by
  obtain ⟨L', hD, hS, _⟩ := h
  exact ⟨_, ⟨mb, L', hD, rfl⟩, hS⟩
theorem DN.after {w w1 w' : World} {B d : Nat} {bs : List Nat} {S : DS} (hx : Ext w w1) (h : DN w1 B d bs S w') : DN w B d bs S w' := by
  obtain ⟨cs, hD, hS⟩ := h
  exact ⟨cs, hD, Stp.after hx hS⟩
theorem append_dk {B d : Nat} {S : DS} {bs : List Nat} (s : ByteArray) (A : Option Addr) (n c : Nat) (b : List UInt8) {w : World} (h : Dsk w B d S bs) (hs : s.size ≤ 281474976710656) (hl : b.length = n) (hr : Rd w A (b.map bv)) (hro : Ap A b bs)
    (hbd : (cont S s.data.toList).length + n ≤ 140737488355328) (hL : S.l.length < 281474976710656) :
    Calls Tryd.prog 7 #[.pointer (some ⟨d, 0, none⟩), .string s, .slice A n c] w fun e w' => e = .returned (errV (app wrap64 S s.data.toList b).1) ∧ DN w B d bs (app wrap64 S s.data.toList b).2 w' := by
  obtain ⟨mb, L, h, rfl⟩ := h
  rw [h.ls, List.length_map] at hL
  exact (append_any B d mb S L s A n c b w h hs hl hr hro hbd hL).mono fun e w' x => ⟨x.1, x.2.dn⟩
theorem sync_dk {B d : Nat} {S : DS} {bs : List Nat} (s : ByteArray) {w : World} (h : Dsk w B d S bs) (hs : s.size ≤ 281474976710656) :
    Calls Tryd.prog 8 #[.pointer (some ⟨d, 0, none⟩), .string s] w fun e w' => e = .returned (errV (syn wrap64 S s.data.toList).1) ∧ DN w B d bs (syn wrap64 S s.data.toList).2 w' := by
  obtain ⟨mb, L, h, rfl⟩ := h
  exact (sync_any B d mb S L s w h hs).mono fun e w' x => ⟨x.1, x.2.dn⟩
theorem cut_dk {B d : Nat} {S : DS} {bs : List Nat} (n : Int) {w : World} (h : Dsk w B d S bs) (hn : n ≤ 9223372036854775807) :
    Calls Tryd.prog 9 #[.pointer (some ⟨d, 0, none⟩), .int .i64 n] w fun e w' => e = .returned (errV (cutd S n).1) ∧ DN w B d bs (cutd S n).2 w' := by
  obtain ⟨mb, L, h, rfl⟩ := h
  exact (cut_any B d mb n S L w h hn).mono fun e w' x => ⟨x.1, (Done.d x.2.1 x.2.2).dn⟩
theorem power_dk {B d : Nat} {S : DS} {bs : List Nat} (keep : Int) {w : World} (h : Dsk w B d S bs) (hkp : -9223372036854775808 ≤ keep ∧ keep ≤ 9223372036854775807) :
    Calls Tryd.prog 11 #[.pointer (some ⟨d, 0, none⟩), .int .i64 keep] w fun e w' => e = .returned (.tuple #[]) ∧ DN w B d bs (Dk.pow S keep) w' := by
  obtain ⟨mb, L, h, rfl⟩ := h
  exact (power_any B d mb S L keep w h hkp).mono fun e w' x => ⟨x.1, x.2.dn⟩
theorem read_dk {B d : Nat} {S : DS} {bs : List Nat} (s : ByteArray) {w : World} (h : Dsk w B d S bs) (hs : s.size ≤ 281474976710656) (hf : fnd S s.data.toList = 0) :
    Calls Tryd.prog 12 #[.pointer (some ⟨d, 0, none⟩), .string s] w fun e w' => ∃ v, e = .returned (.tuple #[v, .nilIface]) ∧ RetB w (cont S s.data.toList).length (cont S s.data.toList) v w' := by
  obtain ⟨mb, L, h, rfl⟩ := h
  refine read_ok B d mb S L s w h hs hf ?_
  obtain ⟨ho, f, hq⟩ := fnd_ok hf
  obtain ⟨l1, l2, g, rfl, rfl, hnm, h1, h2⟩ := h.isome hq
  have e : cont S s.data.toList = g.f.b := by unfold cont; rw [hq]
  rw [e]
  exact (h.fl g (by simp)).len
theorem new_dk (room : Int) (w : World) (h0 : 0 ≤ room) (h1 : room ≤ 9223372036854775807) :
    Calls Tryd.prog 6 #[.int .i64 room] w fun e w' => ∃ d bs, e = .returned (.tuple #[.pointer (some ⟨d, 0, none⟩), .nilIface]) ∧ Dsk w' w.heap.size d (newD room) bs ∧ Ext w w' :=
  (new_any room w h0 h1).mono fun e w' x => ⟨_, _, x.1, ⟨_, _, x.2.1, rfl⟩, x.2.2⟩
end Go.Proofs.YtkgnaabmcboffaaDoor
