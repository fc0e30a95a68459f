/-
  Walks of the document's answer for layer 1: sizes, characters' bytes, the character at a place.
-/
import Derived.Test.YthdniboajbhhiaaDoorUtfD
import Derived.Test.YthdniboajbhhiaaDoorUtfN
set_option linter.unusedSimpArgs false
set_option linter.unusedVariables false
namespace Go.Proofs.YthdniboajbhhiaaDoor
open Go.RowKit Go.Cv Go.Cv.Utf Go.Cv.Dig

set_option maxHeartbeats 2000000 in
theorem size_any (b : UInt8) (w : World) :
    Calls Tryd.prog 39 #[.int .u8 (n8 b)] w fun e w' => e = .returned (.int .i64 ((szN b.toNat : Nat) : Int)) ∧ w' = w := by
  have hb := n8_bd b
  have hn : (b.toNat : Int) = n8 b := rfl
  have e0 : szN b.toNat = szN (n8 b).toNat := rfl
  rw [e0]
  clear e0 hn
  generalize n8 b = x at *
  rcases (by omega : x < 128 ∨ (¬ x < 128 ∧ ¬ 192 ≤ x) ∨ (¬ x < 128 ∧ 192 ≤ x ∧ x < 224) ∨ (¬ x < 128 ∧ 192 ≤ x ∧ ¬ x < 224 ∧ 224 ≤ x ∧ x < 240) ∨ (¬ x < 128 ∧ 192 ≤ x ∧ ¬ x < 224 ∧ 224 ≤ x ∧ ¬ x < 240 ∧ 240 ≤ x ∧ x < 248) ∨ (¬ x < 128 ∧ 192 ≤ x ∧ ¬ x < 224 ∧ 224 ≤ x ∧ ¬ x < 240 ∧ 240 ≤ x ∧ ¬ x < 248)) with h | ⟨h1, h⟩ | ⟨h1, h2, h⟩ | ⟨h1, h2, h3, h4, h⟩ | ⟨h1, h2, h3, h4, h5, h6, h⟩ | ⟨h1, h2, h3, h4, h5, h6, h⟩
  · have e : szN x.toNat = 1 := by unfold szN; rw [if_pos (by omega)]
    rw [e]
    go_enter Tryd.func39, Tryd.ntmps39
    go_wp2
    go_ret
    exact ⟨rfl, rfl⟩
  · have e : szN x.toNat = 0 := by unfold szN; rw [if_neg (by omega), if_neg (by omega), if_neg (by omega), if_neg (by omega)]
    rw [e]
    have h7 : ¬ 224 ≤ x := by omega
    have h8 : ¬ 240 ≤ x := by omega
    go_enter Tryd.func39, Tryd.ntmps39
    go_wp2
    go_ret
    exact ⟨rfl, rfl⟩
  · have e : szN x.toNat = 2 := by unfold szN; rw [if_neg (by omega), if_pos (by omega)]
    rw [e]
    go_enter Tryd.func39, Tryd.ntmps39
    go_wp2
    go_ret
    exact ⟨rfl, rfl⟩
  · have e : szN x.toNat = 3 := by unfold szN; rw [if_neg (by omega), if_neg (by omega), if_pos (by omega)]
    rw [e]
    go_enter Tryd.func39, Tryd.ntmps39
    go_wp2
    go_ret
    exact ⟨rfl, rfl⟩
  · have e : szN x.toNat = 4 := by unfold szN; rw [if_neg (by omega), if_neg (by omega), if_neg (by omega), if_pos (by omega)]
    rw [e]
    go_enter Tryd.func39, Tryd.ntmps39
    go_wp2
    go_ret
    exact ⟨rfl, rfl⟩
  · have e : szN x.toNat = 0 := by unfold szN; rw [if_neg (by omega), if_neg (by omega), if_neg (by omega), if_neg (by omega)]
    rw [e]
    go_enter Tryd.func39, Tryd.ntmps39
    go_wp2
    go_ret
    exact ⟨rfl, rfl⟩

/-- The bytes of a character. -/
def encU (p : Nat) : List UInt8 :=
  if p < 128 then [u8 (p : Int)] else if p < 2048 then [192 + u8 ((p : Int) / 64), 128 + u8 ((p : Int) % 64)]
  else if p < 65536 then [224 + u8 ((p : Int) / 4096), 128 + u8 ((p : Int) / 64 % 64), 128 + u8 ((p : Int) % 64)]
  else [240 + u8 ((p : Int) / 262144), 128 + u8 ((p : Int) / 4096 % 64), 128 + u8 ((p : Int) / 64 % 64), 128 + u8 ((p : Int) % 64)]
/-- Bytes that lie there. -/
def BytesAt (w : World) (A : Option Addr) (l : List UInt8) : Prop := Rd w A (l.map bv)
theorem rd_new_list (w : World) (xs : List Value) (t : TypeId) : Rd (w.alloc (.cells xs.toArray t)) (some ⟨w.heap.size, 0, none⟩) xs := Rd.of_cells fun j u hu => by
  rw [show (Addr.add ⟨w.heap.size, 0, none⟩ j) = ⟨w.heap.size, j, none⟩ from by unfold Addr.add; split <;> simp_all]
  rw [World.cell?_alloc_at _ _ _ _ rfl]
  simpa using hu
theorem encU_len (p : Nat) : (encU p).length = blen p := by
  unfold encU blen
  split
  · rfl
  · split
    · rfl
    · split <;> rfl
set_option maxHeartbeats 2000000 in
theorem isPoint_any (x : Int) (w : World) :
    Calls Tryd.prog 33 #[.int .i64 x] w fun e w' => e = .returned (.bool (decide (0 ≤ x ∧ x ≤ 1114111 ∧ (x < 55296 ∨ 57343 < x)))) ∧ w' = w := by
  rcases (by omega : ¬ 0 ≤ x ∨ (0 ≤ x ∧ ¬ x ≤ 1114111) ∨ (0 ≤ x ∧ x ≤ 1114111 ∧ x < 55296) ∨ (0 ≤ x ∧ x ≤ 1114111 ∧ ¬ x < 55296 ∧ 57343 < x) ∨ (0 ≤ x ∧ x ≤ 1114111 ∧ ¬ x < 55296 ∧ ¬ 57343 < x)) with h | ⟨h1, h⟩ | ⟨h1, h2, h⟩ | ⟨h1, h2, h3, h⟩ | ⟨h1, h2, h3, h⟩
  case inr.inr.inl => 
    rw [decide_eq_true (by omega)]
    go_enter Tryd.func33, Tryd.ntmps33
    go_wp2
    go_ret
    exact ⟨rfl, rfl⟩
  case inr.inr.inr.inl => 
    rw [decide_eq_true (by omega)]
    go_enter Tryd.func33, Tryd.ntmps33
    go_wp2
    go_ret
    exact ⟨rfl, rfl⟩
  all_goals
    rw [decide_eq_false (by omega)]
    go_enter Tryd.func33, Tryd.ntmps33
    go_wp2
    go_ret
    exact ⟨rfl, rfl⟩
set_option maxHeartbeats 2000000 in
theorem bytes_pt (p : Nat) (w : World) (hp : p ≤ 2097152) :
    Calls Tryd.prog 34 #[.int .i64 p] w fun e w' => ∃ A, e = .returned (.slice (some A) (blen p) (blen p)) ∧ BytesAt w' (some A) (encU p) ∧ Ext w w' := by
  rcases (by omega : p < 128 ∨ (¬ p < 128 ∧ p < 2048) ∨ (¬ p < 128 ∧ ¬ p < 2048 ∧ p < 65536) ∨ (¬ p < 128 ∧ ¬ p < 2048 ∧ ¬ p < 65536)) with h | ⟨h1, h⟩ | ⟨h1, h2, h⟩ | ⟨h1, h2, h⟩
  · have e : Hid (encU p = [u8 (p : Int)]) := Lib.hid (by unfold encU; rw [if_pos h])
    rw [blen1 h]
    have h' : (p : Int) < 128 := by omega
    go_enter Tryd.func34, Tryd.ntmps34
    go_wp2
    go_ret
    exact ⟨_, rfl, by rw [e.out]; exact rd_new_list _ _ _, ext_alloc _ _⟩
  · have e : Hid (encU p = [192 + u8 ((p : Int) / 64), 128 + u8 ((p : Int) % 64)]) := Lib.hid (by unfold encU; rw [if_neg h1, if_pos h])
    rw [blen2 (by omega) h]
    have h' : (p : Int) < 2048 := by omega
    have h1' : ¬ (p : Int) < 128 := by omega
    go_enter Tryd.func34, Tryd.ntmps34
    go_wp2
    go_ret
    exact ⟨_, rfl, by rw [e.out]; exact rd_new_list _ _ _, ext_alloc _ _⟩
  · have e : Hid (encU p = [224 + u8 ((p : Int) / 4096), 128 + u8 ((p : Int) / 64 % 64), 128 + u8 ((p : Int) % 64)]) := Lib.hid (by unfold encU; rw [if_neg h1, if_neg h2, if_pos h])
    rw [blen3 (by omega) h]
    have h' : (p : Int) < 65536 := by omega
    have h1' : ¬ (p : Int) < 128 := by omega
    have h2' : ¬ (p : Int) < 2048 := by omega
    go_enter Tryd.func34, Tryd.ntmps34
    go_wp2
    go_ret
    exact ⟨_, rfl, by rw [e.out]; exact rd_new_list _ _ _, ext_alloc _ _⟩
  · have e : Hid (encU p = [240 + u8 ((p : Int) / 262144), 128 + u8 ((p : Int) / 4096 % 64), 128 + u8 ((p : Int) / 64 % 64), 128 + u8 ((p : Int) % 64)]) := Lib.hid (by unfold encU; rw [if_neg h1, if_neg h2, if_neg h])
    rw [blen4 (by omega)]
    have h' : ¬ (p : Int) < 65536 := by omega
    have h1' : ¬ (p : Int) < 128 := by omega
    have h2' : ¬ (p : Int) < 2048 := by omega
    go_enter Tryd.func34, Tryd.ntmps34
    go_wp2
    go_ret
    exact ⟨_, rfl, by rw [e.out]; exact rd_new_list _ _ _, ext_alloc _ _⟩
end Go.Proofs.YthdniboajbhhiaaDoor
