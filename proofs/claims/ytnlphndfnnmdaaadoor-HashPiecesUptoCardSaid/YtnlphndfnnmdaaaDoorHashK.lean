/-
  Worlds in which some rows of one's own turned; what the layer hash reckons.
-/
import Derived.Test.YtnlphndfnnmdaaaDoorHashA
import Derived.RowKitTokens
set_option linter.unusedSimpArgs false
set_option linter.unusedVariables false
namespace Go.Cv
open Go.RowKit
/-- Of the blocks that were, none but those listed turned. -/
structure Keep (bs : List Nat) (w w' : World) : Prop where
  os : w'.os = w.os
  tape : w'.tape = w.tape
  output : w'.output = w.output
  size : w.heap.size ≤ w'.heap.size
  keep : ∀ k, k < w.heap.size → k ∉ bs → w'.heap[k]? = w.heap[k]?
theorem Keep.of_ext {bs : List Nat} {w w' : World} (h : Ext w w') : Keep bs w w' := ⟨h.os, h.tape, h.output, h.size, fun k hk _ => h.block k hk⟩
theorem Keep.refl (bs : List Nat) (w : World) : Keep bs w w := ⟨rfl, rfl, rfl, Nat.le_refl _, fun _ _ _ => rfl⟩
theorem Keep.trans {bs cs : List Nat} {a b c : World} (h : Keep bs a b) (k : Keep cs b c) (hc : ∀ x ∈ cs, x ∈ bs ∨ a.heap.size ≤ x) : Keep bs a c :=
  ⟨k.os.trans h.os, k.tape.trans h.tape, k.output.trans h.output, Nat.le_trans h.size k.size, fun x hx hn => by
    have hs := h.size
    rw [k.keep x (by omega) (fun hm => by
      rcases hc x hm with h1 | h1
      · exact hn h1
      · omega), h.keep x hx hn]⟩
theorem Keep.same {bs : List Nat} {a b c : World} (h : Keep bs a b) (k : Keep bs b c) : Keep bs a c := h.trans k fun _ hx => .inl hx
theorem Keep.ext {bs : List Nat} {a b c : World} (h : Keep bs a b) (k : Ext b c) : Keep bs a c := h.trans (Keep.of_ext (bs := []) k) fun _ hx => by cases hx
theorem Keep.mono {bs cs : List Nat} {a b : World} (h : Keep bs a b) (hs : ∀ x ∈ bs, x ∈ cs) : Keep cs a b := ⟨h.os, h.tape, h.output, h.size, fun k hk hn => h.keep k hk fun hm => hn (hs k hm)⟩
theorem Keep.row {bs : List Nat} {w w' : World} {b : Nat} {r : Obj} (h : Keep bs w w') (hr : w.heap[b]? = some r) (hb : b ∉ bs) : w'.heap[b]? = some r :=
  (h.keep b (Array.getElem?_eq_some_iff.1 hr).1 hb).trans hr
theorem Keep.below {bs : List Nat} {w w' : World} {B : Nat} (h : Keep bs w w') (hB : ∀ x ∈ bs, B ≤ x) (hs : B ≤ w.heap.size) : Below B w w' :=
  ⟨h.os, h.tape, h.output, h.size, fun k hk => h.keep k (by omega) fun hm => by have := hB k hm; omega⟩
theorem Keep.cell {bs : List Nat} {w w' : World} {p : Addr} {v : Value} (h : Keep bs w w') (hc : w.cell? p = some v) (hb : p.block ∉ bs) : w'.cell? p = some v := by
  have hlt := World.block_lt_of_cell? w p hc
  rw [← hc]
  unfold World.cell?
  rw [h.keep _ hlt hb]
theorem Keep.rd {bs : List Nat} {w w' : World} {ad : Addr} {xs : List Value} (h : Keep bs w w') (hr : Rd w (some ad) xs) (hb : ad.block ∉ bs) : Rd w' (some ad) xs := fun k v hv => by
  obtain ⟨ad', e, hc⟩ := hr k v hv
  injection e with e
  subst e
  exact ⟨ad, rfl, h.cell hc (by rw [add_block]; exact hb)⟩
theorem Keep.setCell (w : World) (p : Addr) (v : Value) : Keep [p.block] w (w.setCell p v) :=
  ⟨rfl, rfl, rfl, by simp [World.setCell], fun k _ hk => Below.heap_setCell _ _ _ _ (fun e => hk (by simp [e]))⟩
/-- A row of cells. -/
def Row (w : World) (b : Nat) (T : TypeId) (cs : List Value) : Prop := w.heap[b]? = some (.cells cs.toArray T (0, 0))
theorem Row.cell {w : World} {b : Nat} {T : TypeId} {cs : List Value} (h : Row w b T cs) {i : Nat} (hi : i < cs.length) : w.cell? ⟨b, i, none⟩ = some cs[i] := by
  unfold Row at h
  rw [Lib.cell_of_heap h]
  simp [hi]
theorem Row.fro {w : World} {b : Nat} {T : TypeId} {cs : List Value} (h : Row w b T cs) (i : Nat) : w.frozen? ⟨b, i, none⟩ = false := Lib.frozen_of_heap h i
theorem Row.keep {bs : List Nat} {w w' : World} {b : Nat} {T : TypeId} {cs : List Value} (h : Row w b T cs) (k : Keep bs w w') (hb : b ∉ bs) : Row w' b T cs := k.row h hb
theorem Row.ext {w w' : World} {b : Nat} {T : TypeId} {cs : List Value} (h : Row w b T cs) (k : Ext w w') : Row w' b T cs := h.keep (Keep.of_ext (bs := []) k) (by simp)
theorem Row.lt {w : World} {b : Nat} {T : TypeId} {cs : List Value} (h : Row w b T cs) : b < w.heap.size := (Array.getElem?_eq_some_iff.1 h).1
theorem Row.set {w : World} {b : Nat} {T : TypeId} {cs : List Value} (h : Row w b T cs) (i : Nat) (v : Value) : Row (w.setCell ⟨b, i, none⟩ v) b T (cs.set i v) := by
  unfold Row at *
  simp [World.setCell, Array.getElem?_modify, h]
theorem Row.alloc (w : World) (cs : List Value) (T : TypeId) : Row (w.alloc (.cells cs.toArray T)) w.heap.size T cs := by
  show (w.heap.push _)[w.heap.size]? = _
  simp
end Go.Cv
namespace Go.Cv.Hash
open Go.RowKit
def wv32 (x : UInt32) : Value := .int .u32 (n32 x)
structure St32 where
  (a b c d e f g h : UInt32)
def St32.l (s : St32) : List UInt32 := [s.a, s.b, s.c, s.d, s.e, s.f, s.g, s.h]
def nxt32 (l : List UInt32) : UInt32 := small32 (l.getD (l.length - 2) 0) 17 19 10 + l.getD (l.length - 7) 0 + small32 (l.getD (l.length - 15) 0) 7 18 3 + l.getD (l.length - 16) 0
def sched32 : Nat → List UInt32 → List UInt32
  | 0, l => l
  | n + 1, l => sched32 n (l ++ [nxt32 l])
def one32 (s : St32) (k x : UInt32) : UInt32 := s.h + great32 s.e 6 11 25 + (s.e &&& s.f ^^^ ~~~s.e &&& s.g) + k + x
def dos32 (s : St32) : UInt32 := great32 s.a 2 13 22 + (s.a &&& s.b ^^^ s.a &&& s.c ^^^ s.b &&& s.c)
def rnd32 (s : St32) (k x : UInt32) : St32 := ⟨one32 s k x + dos32 s, s.a, s.b, s.c, s.d + one32 s k x, s.e, s.f, s.g⟩
def rnds32 : List UInt32 → List UInt32 → St32 → St32
  | k :: ks, x :: xs, s => rnds32 ks xs (rnd32 s k x)
  | _, _, s => s
def plus32 (s t : St32) : St32 := ⟨s.a + t.a, s.b + t.b, s.c + t.c, s.d + t.d, s.e + t.e, s.f + t.f, s.g + t.g, s.h + t.h⟩
/-- A block's sixteen words, mixed in. -/
def block32 (ks : List UInt32) (ws : List UInt32) (s : St32) : St32 := plus32 s (rnds32 ks (sched32 (64 - 16) (ws.take 16)) s)
/-- The first i words of a sum. -/
def addN32 (h v : List UInt32) : Nat → List UInt32
  | 0 => h
  | i + 1 => (addN32 h v i).set i (h.getD i 0 + v.getD i 0)
theorem addN_len32 (h v : List UInt32) : ∀ i, (addN32 h v i).length = h.length
  | 0 => rfl
  | i + 1 => by simp only [addN32, List.length_set]; exact addN_len32 h v i
theorem addN_at32 (h v : List UInt32) : ∀ i j, i ≤ j → (addN32 h v i).getD j 0 = h.getD j 0
  | 0, _, _ => rfl
  | i + 1, j, hj => by
    simp only [addN32]
    rw [List.getD_eq_getElem?_getD, List.getElem?_set_ne (by omega), ← List.getD_eq_getElem?_getD]
    exact addN_at32 h v i j (by omega)
theorem addN_8_32 (s t : St32) : addN32 s.l t.l 8 = (plus32 s t).l := rfl
theorem sched_len32 : ∀ n (l : List UInt32), (sched32 n l).length = l.length + n
  | 0, _ => rfl
  | n + 1, l => by simp only [sched32]; rw [sched_len32 n]; simp; omega
theorem getD_get32 (l : List UInt32) (i : Nat) (h : i < l.length) : l.getD i 0 = l[i] := by simp [List.getD, List.getElem?_eq_getElem h]
theorem nxt_at32 (cs : List UInt32) (i : Nat) (h16 : 16 ≤ i) (hi : i < cs.length) :
    nxt32 (cs.take i) = small32 (cs.getD (i - 2) 0) 17 19 10 + cs.getD (i - 7) 0 + small32 (cs.getD (i - 15) 0) 7 18 3 + cs.getD (i - 16) 0 := by
  have hl : (cs.take i).length = i := by simp; omega
  have ht : ∀ k, k < i → (cs.take i).getD k 0 = cs.getD k 0 := fun k hk => by
    rw [List.getD_eq_getElem?_getD, List.getElem?_take_of_lt hk, ← List.getD_eq_getElem?_getD]
  unfold nxt32
  rw [hl, ht _ (by omega), ht _ (by omega), ht _ (by omega), ht _ (by omega)]
theorem take_set32 (cs : List UInt32) (i : Nat) (v : UInt32) (hi : i < cs.length) : (cs.set i v).take (i + 1) = cs.take i ++ [v] := by
  rw [List.take_succ_eq_append_getElem (by simpa using hi)]
  simp [List.take_set_of_le]
def wv64 (x : UInt64) : Value := .int .u64 (n64 x)
structure St64 where
  (a b c d e f g h : UInt64)
def St64.l (s : St64) : List UInt64 := [s.a, s.b, s.c, s.d, s.e, s.f, s.g, s.h]
def nxt64 (l : List UInt64) : UInt64 := small64 (l.getD (l.length - 2) 0) 19 61 6 + l.getD (l.length - 7) 0 + small64 (l.getD (l.length - 15) 0) 1 8 7 + l.getD (l.length - 16) 0
def sched64 : Nat → List UInt64 → List UInt64
  | 0, l => l
  | n + 1, l => sched64 n (l ++ [nxt64 l])
def one64 (s : St64) (k x : UInt64) : UInt64 := s.h + great64 s.e 14 18 41 + (s.e &&& s.f ^^^ ~~~s.e &&& s.g) + k + x
def dos64 (s : St64) : UInt64 := great64 s.a 28 34 39 + (s.a &&& s.b ^^^ s.a &&& s.c ^^^ s.b &&& s.c)
def rnd64 (s : St64) (k x : UInt64) : St64 := ⟨one64 s k x + dos64 s, s.a, s.b, s.c, s.d + one64 s k x, s.e, s.f, s.g⟩
def rnds64 : List UInt64 → List UInt64 → St64 → St64
  | k :: ks, x :: xs, s => rnds64 ks xs (rnd64 s k x)
  | _, _, s => s
def plus64 (s t : St64) : St64 := ⟨s.a + t.a, s.b + t.b, s.c + t.c, s.d + t.d, s.e + t.e, s.f + t.f, s.g + t.g, s.h + t.h⟩
/-- A block's sixteen words, mixed in. -/
def block64 (ks : List UInt64) (ws : List UInt64) (s : St64) : St64 := plus64 s (rnds64 ks (sched64 (80 - 16) (ws.take 16)) s)
/-- The first i words of a sum. -/
def addN64 (h v : List UInt64) : Nat → List UInt64
  | 0 => h
  | i + 1 => (addN64 h v i).set i (h.getD i 0 + v.getD i 0)
theorem addN_len64 (h v : List UInt64) : ∀ i, (addN64 h v i).length = h.length
  | 0 => rfl
  | i + 1 => by simp only [addN64, List.length_set]; exact addN_len64 h v i
theorem addN_at64 (h v : List UInt64) : ∀ i j, i ≤ j → (addN64 h v i).getD j 0 = h.getD j 0
  | 0, _, _ => rfl
  | i + 1, j, hj => by
    simp only [addN64]
    rw [List.getD_eq_getElem?_getD, List.getElem?_set_ne (by omega), ← List.getD_eq_getElem?_getD]
    exact addN_at64 h v i j (by omega)
theorem addN_8_64 (s t : St64) : addN64 s.l t.l 8 = (plus64 s t).l := rfl
theorem sched_len64 : ∀ n (l : List UInt64), (sched64 n l).length = l.length + n
  | 0, _ => rfl
  | n + 1, l => by simp only [sched64]; rw [sched_len64 n]; simp; omega
theorem getD_get64 (l : List UInt64) (i : Nat) (h : i < l.length) : l.getD i 0 = l[i] := by simp [List.getD, List.getElem?_eq_getElem h]
theorem nxt_at64 (cs : List UInt64) (i : Nat) (h16 : 16 ≤ i) (hi : i < cs.length) :
    nxt64 (cs.take i) = small64 (cs.getD (i - 2) 0) 19 61 6 + cs.getD (i - 7) 0 + small64 (cs.getD (i - 15) 0) 1 8 7 + cs.getD (i - 16) 0 := by
  have hl : (cs.take i).length = i := by simp; omega
  have ht : ∀ k, k < i → (cs.take i).getD k 0 = cs.getD k 0 := fun k hk => by
    rw [List.getD_eq_getElem?_getD, List.getElem?_take_of_lt hk, ← List.getD_eq_getElem?_getD]
  unfold nxt64
  rw [hl, ht _ (by omega), ht _ (by omega), ht _ (by omega), ht _ (by omega)]
theorem take_set64 (cs : List UInt64) (i : Nat) (v : UInt64) (hi : i < cs.length) : (cs.set i v).take (i + 1) = cs.take i ++ [v] := by
  rw [List.take_succ_eq_append_getElem (by simpa using hi)]
  simp [List.take_set_of_le]
end Go.Cv.Hash
