/-
  The disk's requests, whole; two rows of bytes alike; the head of all statements of layer 10.
-/
import Derived.Test.YtkgnaabmcboffaaDoorDkG
set_option linter.unusedSimpArgs false
set_option linter.unusedVariables false
namespace Go.Proofs.YtkgnaabmcboffaaDoor
open Go.RowKit Go.Cv Go.Cv.Dk
/-- The disk stands so, its blocks come from bs. -/
def DN (w : World) (B d : Nat) (bs : List Nat) (S' : DS) (w' : World) : Prop := ∃ cs, Dsk w' B d S' cs ∧ Stp bs cs w w'
theorem Done.dn {w w' : World} {B d mb : Nat} {L : List GF} {S' : DS} (h : Done w B d mb L S' w') : DN w B d (foot d mb L) S' w' := by
  obtain ⟨L', hD, hS, _⟩ := h
  exact ⟨_, ⟨mb, L', hD, rfl⟩, hS⟩
theorem append_dk {B d : Nat} {S : DS} {bs : List Nat} (s : ByteArray) (A : Option Addr) (n c : Nat) (b : List UInt8) {w : World} (h : Dsk w B d S bs) (hs : s.size ≤ 281474976710656) (hl : b.length = n) (hr : Rd w A (b.map bv)) (hro : Ap A b bs)
    (hbd : (cont S s.data.toList).length + n ≤ 140737488355328) (hL : S.l.length < 281474976710656) :
    Calls Tryd.prog 7 #[.pointer (some ⟨d, 0, none⟩), .string s, .slice A n c] w fun e w' => e = .returned (errV (app wrap64 S s.data.toList b).1) ∧ DN w B d bs (app wrap64 S s.data.toList b).2 w' := by
  obtain ⟨mb, L, h, rfl⟩ := h
  rw [h.ls, List.length_map] at hL
  exact (append_any B d mb S L s A n c b w h hs hl hr hro hbd hL).mono fun e w' x => ⟨x.1, x.2.dn⟩
theorem sync_dk {B d : Nat} {S : DS} {bs : List Nat} (s : ByteArray) {w : World} (h : Dsk w B d S bs) (hs : s.size ≤ 281474976710656) :
    Calls Tryd.prog 8 #[.pointer (some ⟨d, 0, none⟩), .string s] w fun e w' => e = .returned (errV (syn wrap64 S s.data.toList).1) ∧ DN w B d bs (syn wrap64 S s.data.toList).2 w' := by
  obtain ⟨mb, L, h, rfl⟩ := h
  exact (sync_any B d mb S L s w h hs).mono fun e w' x => ⟨x.1, x.2.dn⟩
theorem cut_dk {B d : Nat} {S : DS} {bs : List Nat} (n : Int) {w : World} (h : Dsk w B d S bs) (hn : n ≤ 9223372036854775807) :
    Calls Tryd.prog 9 #[.pointer (some ⟨d, 0, none⟩), .int .i64 n] w fun e w' => e = .returned (errV (cutd S n).1) ∧ DN w B d bs (cutd S n).2 w' := by
  obtain ⟨mb, L, h, rfl⟩ := h
  exact (cut_any B d mb n S L w h hn).mono fun e w' x => ⟨x.1, (Done.d x.2.1 x.2.2).dn⟩
theorem power_dk {B d : Nat} {S : DS} {bs : List Nat} (keep : Int) {w : World} (h : Dsk w B d S bs) (hkp : -9223372036854775808 ≤ keep ∧ keep ≤ 9223372036854775807) :
    Calls Tryd.prog 11 #[.pointer (some ⟨d, 0, none⟩), .int .i64 keep] w fun e w' => e = .returned (.tuple #[]) ∧ DN w B d bs (Dk.pow S keep) w' := by
  obtain ⟨mb, L, h, rfl⟩ := h
  exact (power_any B d mb S L keep w h hkp).mono fun e w' x => ⟨x.1, x.2.dn⟩
theorem on_dk {B d : Nat} {S : DS} {bs : List Nat} {w : World} (h : Dsk w B d S bs) :
    Calls Tryd.prog 17 #[.pointer (some ⟨d, 0, none⟩)] w fun e w' => e = .returned (.bool (!S.off)) ∧ w = w' := by
  obtain ⟨mb, L, h, rfl⟩ := h
  exact on_is B d mb S L w h
theorem read_dk {B d : Nat} {S : DS} {bs : List Nat} (s : ByteArray) {w : World} (h : Dsk w B d S bs) (hs : s.size ≤ 281474976710656) (hf : fnd S s.data.toList = 0) :
    Calls Tryd.prog 12 #[.pointer (some ⟨d, 0, none⟩), .string s] w fun e w' => ∃ v, e = .returned (.tuple #[v, .nilIface]) ∧ RetB w (cont S s.data.toList).length (cont S s.data.toList) v w' := by
  obtain ⟨mb, L, h, rfl⟩ := h
  refine read_ok B d mb S L s w h hs hf ?_
  obtain ⟨ho, f, hq⟩ := fnd_ok hf
  obtain ⟨l1, l2, g, rfl, rfl, hnm, h1, h2⟩ := h.isome hq
  have e : cont S s.data.toList = g.f.b := by unfold cont; rw [hq]
  rw [e]
  exact (h.fl g (by simp)).len
theorem new_dk (room : Int) (w : World) (h0 : 0 ≤ room) (h1 : room ≤ 9223372036854775807) :
    Calls Tryd.prog 6 #[.int .i64 room] w fun e w' => ∃ d bs, e = .returned (.tuple #[.pointer (some ⟨d, 0, none⟩), .nilIface]) ∧ Dsk w' w.heap.size d (newD room) bs ∧ Ext w w' :=
  (new_any room w h0 h1).mono fun e w' x => ⟨_, _, x.1, ⟨_, _, x.2.1, rfl⟩, x.2.2⟩
set_option maxHeartbeats 800000 in
theorem same10_any (A : Option Addr) (n c : Nat) (l : List UInt8) (B : Option Addr) (m d : Nat) (k : List UInt8) (w : World) (hl : l.length = n) (hr : Rd w A (l.map bv)) (hk : k.length = m) (hr2 : Rd w B (k.map bv)) :
    Calls Tryd.prog 13 #[.slice A n c, .slice B m d] w fun e w' => e = .returned (.bool (decide (l = k))) ∧ w = w' := by
  have hL := Lib.hid hl
  have hK := Lib.hid hk
  obtain ⟨r, hres⟩ : ∃ r, r = decide (l = k) := ⟨_, rfl⟩
  rw [← hres]
  have hrx := Lib.hid hres
  clear hl hk hres
  go_enter Tryd.func13, Tryd.ntmps13
  have hcv1 := run_convert_rd (P := Tryd.prog) w 22 9 5 Tryd.underlying22 Tryd.underlying5 Tryd.underlying9 A n c l hL.out hr
  have hcv2 := run_convert_rd (P := Tryd.prog) w 22 9 5 Tryd.underlying22 Tryd.underlying5 Tryd.underlying9 B m d k hK.out hr2
  go_wp2
  go_ret
  refine ⟨?_, rfl⟩
  have hb : (l == k) = r := by
    rw [hrx.out]
    by_cases e : l = k
    · subst e; simp
    · simp [e]
  exact congrArg (fun b => Ending.returned (Value.bool b)) hb
/-- Which of m things a number speaks of. -/
def pickI (c m : Int) : Int := (if c < 0 then -(c + 1) else c) % m
set_option maxHeartbeats 800000 in
theorem pick_any (c m : Int) (w : World) (hc : -9223372036854775808 ≤ c ∧ c ≤ 9223372036854775807) (hm : 0 < m) :
    Calls Tryd.prog 10 #[.int .i64 c, .int .i64 m] w fun e w' => e = .returned (.int .i64 (pickI c m)) ∧ w = w' := by
  have hm0 : ¬ (m = 0) := by omega
  by_cases h0 : c < 0
  · have e : pickI c m = -((c + 1).tmod m) := by unfold pickI; rw [if_pos h0, ← Int.tmod_eq_emod_of_nonneg (by omega), Int.neg_tmod]
    rw [e]
    have hw1 : IntKind.i64.wrap (c + 1) = c + 1 := IntWalk.i64_in _ (by omega)
    have hw2 : IntKind.i64.wrap (-(c + 1)) = -(c + 1) := IntWalk.i64_in _ (by omega)
    clear e
    go_enter Tryd.func10, Tryd.ntmps10
    go_wp2
    go_ret
    exact ⟨rfl, rfl⟩
  · have e : pickI c m = c % m := by unfold pickI; rw [if_neg h0]
    rw [e]
    clear e
    go_enter Tryd.func10, Tryd.ntmps10
    go_wp2
    go_ret
    exact ⟨rfl, rfl⟩
theorem pickI_bd {c m : Int} (hm : 0 < m) : 0 ≤ pickI c m ∧ pickI c m < m := ⟨Int.emod_nonneg _ (by omega), Int.emod_lt_of_pos _ hm⟩
end Go.Proofs.YtkgnaabmcboffaaDoor
