/-
  A disk, in plain words: a list of files by rising names, and what each request makes of it.
-/
import Derived.ChangeMaps
import Derived.Maps.Ext
import Derived.Lib.SlTrimSet
set_option linter.unusedSimpArgs false
set_option linter.unusedVariables false
namespace Go.Cv.Dk
open Go

/-! ### lists by rising keys -/
def ins {α : Type} (key : α → List UInt8) (x : α) : List α → List α
  | [] => [x]
  | y :: r => if bytesBefore (key x) (key y) then x :: y :: r else y :: ins key x r
theorem ins_map {α β : Type} {key : α → List UInt8} {key' : β → List UInt8} {f : α → β} (h : ∀ a, key' (f a) = key a) (x : α) : ∀ l : List α, (ins key x l).map f = ins key' (f x) (l.map f)
  | [] => rfl
  | y :: r => by
    simp only [ins, List.map_cons, h]
    split
    · rfl
    · rw [List.map_cons, ins_map h x r]
theorem ins_split {α : Type} (key : α → List UInt8) (x : α) : ∀ l : List α, ∃ l1 l2, l = l1 ++ l2 ∧ ins key x l = l1 ++ x :: l2
  | [] => ⟨[], [], rfl, rfl⟩
  | y :: r => by
    simp only [ins]
    split
    · exact ⟨[], y :: r, rfl, rfl⟩
    · obtain ⟨l1, l2, h1, h2⟩ := ins_split key x r
      exact ⟨y :: l1, l2, by rw [h1]; rfl, by rw [h2]; rfl⟩
theorem ins_mem {α : Type} (key : α → List UInt8) (x : α) (l : List α) (y : α) : y ∈ ins key x l ↔ y = x ∨ y ∈ l := by
  obtain ⟨l1, l2, h1, h2⟩ := ins_split key x l
  rw [h2, h1]
  simp only [List.mem_append, List.mem_cons]
  constructor
  · rintro (h | h | h)
    · exact .inr (.inl h)
    · exact .inl h
    · exact .inr (.inr h)
  · rintro (h | h | h)
    · exact .inr (.inl h)
    · exact .inl h
    · exact .inr (.inr h)
theorem ins_length {α : Type} (key : α → List UInt8) (x : α) (l : List α) : (ins key x l).length = l.length + 1 := by
  obtain ⟨l1, l2, h1, h2⟩ := ins_split key x l
  rw [h2, h1]; simp; omega
theorem bb_irrefl : ∀ a : List UInt8, bytesBefore a a = false
  | [] => rfl
  | x :: r => by
    simp only [bytesBefore, bb_irrefl r, Bool.and_false, Bool.or_false]
    exact decide_eq_false (UInt8.lt_irrefl x)
theorem bb_trans : ∀ {a b c : List UInt8}, bytesBefore a b = true → bytesBefore b c = true → bytesBefore a c = true
  | [], [], _, h, _ => by simp [bytesBefore] at h
  | [], _ :: _, [], _, h => by simp [bytesBefore] at h
  | [], _ :: _, _ :: _, _, _ => rfl
  | _ :: _, [], _, h, _ => by simp [bytesBefore] at h
  | _ :: _, _ :: _, [], _, h => by simp [bytesBefore] at h
  | x :: r, y :: s, z :: t, h, k => by
    simp only [bytesBefore, Bool.or_eq_true, Bool.and_eq_true, decide_eq_true_eq, beq_iff_eq] at *
    rcases h with h | ⟨rfl, h⟩
    · rcases k with k | ⟨rfl, k⟩
      · exact .inl (UInt8.lt_trans h k)
      · exact .inl h
    · rcases k with k | ⟨rfl, k⟩
      · exact .inl k
      · exact .inr ⟨rfl, bb_trans h k⟩
theorem bb_total : ∀ {a b : List UInt8}, a ≠ b → bytesBefore a b = false → bytesBefore b a = true
  | [], [], h, _ => absurd rfl h
  | [], _ :: _, _, h => by simp [bytesBefore] at h
  | _ :: _, [], _, _ => rfl
  | x :: r, y :: s, h, k => by
    simp only [bytesBefore, Bool.or_eq_false_iff, Bool.and_eq_false_iff, decide_eq_false_iff_not, Bool.or_eq_true, Bool.and_eq_true, decide_eq_true_eq, beq_iff_eq, beq_eq_false_iff_ne] at *
    by_cases e : x = y
    · subst e
      exact .inr ⟨rfl, bb_total (fun e => h (by rw [e])) (k.2.resolve_left (by simp))⟩
    · left
      have h1 := k.1
      rcases Nat.lt_trichotomy x.toNat y.toNat with h2 | h2 | h2
      · exact absurd (UInt8.lt_iff_toNat_lt.2 h2) h1
      · exact absurd (UInt8.toNat_inj.1 h2) e
      · exact UInt8.lt_iff_toNat_lt.2 h2
/-- By rising keys. -/
def Ris {α : Type} (key : α → List UInt8) (l : List α) : Prop := l.Pairwise fun a b => bytesBefore (key a) (key b) = true
theorem Ris.ne {α : Type} {key : α → List UInt8} {l : List α} (h : Ris key l) : l.Pairwise fun a b => key a ≠ key b :=
  h.imp fun {a b} h e => by rw [e, bb_irrefl] at h; cases h
theorem Ris.ins {α : Type} {key : α → List UInt8} {x : α} : ∀ {l : List α}, Ris key l → (∀ y ∈ l, key y ≠ key x) → Ris key (ins key x l)
  | [], _, _ => by simp [Dk.ins, Ris]
  | y :: r, h, hn => by
    obtain ⟨h1, h2⟩ := List.pairwise_cons.1 h
    simp only [Dk.ins]
    split
    · rename_i hb
      refine List.pairwise_cons.2 ⟨fun z hz => ?_, h⟩
      rcases List.mem_cons.1 hz with rfl | hz
      · exact hb
      · exact bb_trans hb (h1 z hz)
    · rename_i hb
      refine List.pairwise_cons.2 ⟨fun z hz => ?_, Ris.ins h2 fun z hz => hn z (by simp [hz])⟩
      rcases (ins_mem key x r z).1 hz with rfl | hz
      · exact bb_total (fun e => hn y (by simp) e.symm) (by simpa using hb)
      · exact h1 z hz
theorem Ris.filter {α : Type} {key : α → List UInt8} {l : List α} (h : Ris key l) (p : α → Bool) : Ris key (l.filter p) := List.Pairwise.filter p h
theorem Ris.map {α β : Type} {key : α → List UInt8} {key' : β → List UInt8} {f : α → β} (hf : ∀ a, key' (f a) = key a) {l : List α} : Ris key' (l.map f) ↔ Ris key l := by
  unfold Ris
  rw [List.pairwise_map]
  simp only [hf]
/-- Where a key stands. -/
theorem ris_split {α : Type} {key : α → List UInt8} {x : List UInt8} : ∀ {l : List α} {g : α}, l.find? (fun f => key f == x) = some g → ∃ l1 l2, l = l1 ++ g :: l2 ∧ (∀ h ∈ l1, key h ≠ x) ∧ key g = x
  | [], _, h => by simp at h
  | y :: r, g, h => by
    by_cases e : key y = x
    · rw [List.find?_cons_of_pos (by simpa using e)] at h
      cases h
      exact ⟨[], r, rfl, by simp, e⟩
    · rw [List.find?_cons_of_neg (by simpa using e)] at h
      obtain ⟨l1, l2, rfl, h1, h2⟩ := ris_split h
      refine ⟨y :: l1, l2, rfl, fun z hz => ?_, h2⟩
      rcases List.mem_cons.1 hz with rfl | hz
      · exact e
      · exact h1 z hz
theorem ris_after {α : Type} {key : α → List UInt8} {l1 l2 : List α} {g : α} (h : Ris key (l1 ++ g :: l2)) : (∀ z ∈ l1, key z ≠ key g) ∧ (∀ z ∈ l2, key z ≠ key g) := by
  have h2 := (List.pairwise_append.1 h.ne)
  exact ⟨fun z hz => h2.2.2 z hz g (by simp), fun z hz e => (List.pairwise_cons.1 h2.2.1).1 z hz e.symm⟩
theorem filter_all_ {α : Type} {p : α → Bool} {l : List α} (h : ∀ x ∈ l, p x = true) : l.filter p = l := List.filter_eq_self.2 h

/-! ### a disk -/
/-- A file: its name, its bytes, how many are synced. -/
structure PF where
  nm : List UInt8
  b : List UInt8
  sy : Nat
structure DS where
  room : Int
  l : List PF
  off : Bool
  bud : Int
  st : Int
def okb (c : UInt8) : Bool := decide (97 ≤ c.toNat ∧ c.toNat ≤ 122 ∨ 48 ≤ c.toNat ∧ c.toNat ≤ 57 ∨ c.toNat = 46)
def nameOk (x : List UInt8) : Bool := decide (1 ≤ x.length ∧ x.length ≤ 32) && x.all okb
def used (l : List PF) : Nat := (l.map (·.b.length)).sum
def get (l : List PF) (x : List UInt8) : Option PF := l.find? (fun f => f.nm == x)
def upd (l : List PF) (x : List UInt8) (g : PF → PF) : List PF := l.map fun f => if f.nm = x then g f else f
def del (l : List PF) (x : List UInt8) : List PF := l.filter (fun f => !(f.nm == x))
def stepd (S : DS) (bump : Int → Int) : Bool × DS :=
  if S.bud = 0 then (false, { S with off := true }) else (true, { S with bud := if S.bud > 0 then S.bud - 1 else S.bud, st := bump (S.st + 1) })
def has (l : List PF) (x : List UInt8) : Bool := (get l x).isSome
def may (l : List PF) (x : List UInt8) : List PF := if has l x then l else ins PF.nm ⟨x, [], 0⟩ l
def app (bump : Int → Int) (S : DS) (x b : List UInt8) : Nat × DS :=
  if nameOk x = false then (1, S) else if S.off then (11, S) else if (b.length : Int) > S.room - used S.l then (12, S) else
    (if (stepd S bump).1 then 0 else 11, { (stepd S bump).2 with l := upd (may S.l x) x fun f => { f with b := f.b ++ b } })
/-- Whether a file can be had: an error's number. -/
def fnd (S : DS) (x : List UInt8) : Nat := if S.off then 11 else if has S.l x then 0 else 9
def syn (bump : Int → Int) (S : DS) (x : List UInt8) : Nat × DS :=
  if fnd S x ≠ 0 then (fnd S x, S) else if (stepd S bump).1 then (0, { (stepd S bump).2 with l := upd S.l x fun f => { f with sy := f.b.length } }) else (11, (stepd S bump).2)
def cont (S : DS) (x : List UInt8) : List UInt8 := match get S.l x with | some f => f.b | none => []
def rd (S : DS) (x : List UInt8) : Nat × List UInt8 := (fnd S x, if fnd S x = 0 then cont S x else [])
def trunc (bump : Int → Int) (S : DS) (x : List UInt8) (n : Int) : Nat × DS :=
  if fnd S x ≠ 0 then (fnd S x, S) else if n < 0 ∨ n > (cont S x).length then (1, S) else
    if (stepd S bump).1 then (0, { (stepd S bump).2 with l := upd S.l x fun f => { f with b := f.b.take n.toNat, sy := n.toNat } }) else (11, (stepd S bump).2)
def ren (bump : Int → Int) (S : DS) (x y : List UInt8) : Nat × DS :=
  if nameOk y = false then (1, S) else if fnd S x ≠ 0 then (fnd S x, S) else
    if (stepd S bump).1 then (0, { (stepd S bump).2 with l := match get S.l x with | some f => ins PF.nm { f with nm := y } (del (del S.l x) y) | none => S.l }) else (11, (stepd S bump).2)
def rem (bump : Int → Int) (S : DS) (x : List UInt8) : Nat × DS :=
  if fnd S x ≠ 0 then (fnd S x, S) else if (stepd S bump).1 then (0, { (stepd S bump).2 with l := del S.l x }) else (11, (stepd S bump).2)
def cutd (S : DS) (n : Int) : Nat × DS := if n < 0 then (1, S) else (0, if S.off then S else { S with bud := n })
def cutf (keep : Int) (f : PF) : PF :=
  { f with b := f.b.take (f.sy + (max keep 0).toNat % (f.b.length - f.sy + 1)), sy := f.sy + (max keep 0).toNat % (f.b.length - f.sy + 1) }
def pow (S : DS) (keep : Int) : DS := if S.off then { S with bud := -1, off := false, l := S.l.map (cutf keep) } else { S with bud := -1 }
/-- What a disk always is. -/
structure DS.Ok (S : DS) : Prop where
  r0 : 0 ≤ S.room
  r1 : S.room ≤ 9223372036854775807
  b0 : -1 ≤ S.bud
  b1 : S.bud ≤ 9223372036854775807
  u : (used S.l : Int) ≤ S.room
  nm : ∀ f ∈ S.l, nameOk f.nm = true
  sy : ∀ f ∈ S.l, f.sy ≤ f.b.length
  ris : Ris PF.nm S.l
theorem get_some {l : List PF} {x : List UInt8} {f : PF} (h : get l x = some f) : f ∈ l ∧ f.nm = x := by
  have h1 := List.mem_of_find?_eq_some h
  have h2 := List.find?_some h
  exact ⟨h1, by simpa using h2⟩
theorem get_none {l : List PF} {x : List UInt8} (h : get l x = none) : ∀ f ∈ l, f.nm ≠ x := fun f hf e => by
  have := List.find?_eq_none.1 h f hf
  simp [e] at this
theorem get_split {l : List PF} (hr : Ris PF.nm l) {x : List UInt8} {f : PF} (h : get l x = some f) : ∃ l1 l2, l = l1 ++ f :: l2 ∧ f.nm = x ∧ (∀ z ∈ l1, z.nm ≠ x) ∧ (∀ z ∈ l2, z.nm ≠ x) := by
  obtain ⟨l1, l2, rfl, h1, rfl⟩ := ris_split h
  exact ⟨l1, l2, rfl, rfl, h1, (ris_after hr).2⟩
theorem upd_split {l1 l2 : List PF} {f : PF} {x : List UInt8} (g : PF → PF) (h1 : ∀ z ∈ l1, z.nm ≠ x) (h2 : ∀ z ∈ l2, z.nm ≠ x) (hf : f.nm = x) : upd (l1 ++ f :: l2) x g = l1 ++ g f :: l2 := by
  unfold upd
  rw [List.map_append, List.map_cons, if_pos hf]
  congr 1
  · exact (List.map_congr_left fun z hz => if_neg (h1 z hz)).trans (List.map_id' l1)
  · congr 1
    exact (List.map_congr_left fun z hz => if_neg (h2 z hz)).trans (List.map_id' l2)
theorem del_split {l1 l2 : List PF} {f : PF} {x : List UInt8} (h1 : ∀ z ∈ l1, z.nm ≠ x) (h2 : ∀ z ∈ l2, z.nm ≠ x) (hf : f.nm = x) : del (l1 ++ f :: l2) x = l1 ++ l2 := by
  unfold del
  rw [List.filter_append, List.filter_cons_of_neg (by simp [hf])]
  congr 1
  · exact filter_all_ fun z hz => by simpa using h1 z hz
  · exact filter_all_ fun z hz => by simpa using h2 z hz
theorem used_app (l1 l2 : List PF) : used (l1 ++ l2) = used l1 + used l2 := by simp [used]
theorem used_cons (f : PF) (l : List PF) : used (f :: l) = f.b.length + used l := by simp [used]
theorem used_mem {l : List PF} {f : PF} (h : f ∈ l) : f.b.length ≤ used l := by
  obtain ⟨l1, l2, rfl⟩ := List.append_of_mem h
  rw [used_app, used_cons]; omega
theorem used_del (l : List PF) (x : List UInt8) : used (del l x) ≤ used l := by
  induction l with
  | nil => simp [del, used]
  | cons f r ih =>
    unfold del at ih ⊢
    rw [used_cons]
    by_cases h : (!(f.nm == x)) = true
    · rw [List.filter_cons_of_pos (by simpa using h), used_cons]; omega
    · rw [List.filter_cons_of_neg (by simpa using h)]; omega
theorem stepd_l (S : DS) (bump : Int → Int) : (stepd S bump).2.l = S.l ∧ (stepd S bump).2.room = S.room := by unfold stepd; split <;> exact ⟨rfl, rfl⟩
theorem stepd_ok {S : DS} (h : S.Ok) (bump : Int → Int) : (stepd S bump).2.Ok := by
  unfold stepd
  split
  · exact ⟨h.r0, h.r1, h.b0, h.b1, h.u, h.nm, h.sy, h.ris⟩
  · have := h.b0
    have := h.b1
    refine ⟨h.r0, h.r1, ?_, ?_, h.u, h.nm, h.sy, h.ris⟩
    · show -1 ≤ (if S.bud > 0 then S.bud - 1 else S.bud); split <;> omega
    · show (if S.bud > 0 then S.bud - 1 else S.bud) ≤ _; split <;> omega

/-! ### names -/
def cutset : List UInt8 := [97, 98, 99, 100, 101, 102, 103, 104, 105, 106, 107, 108, 109, 110, 111, 112, 113, 114, 115, 116, 117, 118, 119, 120, 121, 122, 48, 49, 50, 51, 52, 53, 54, 55, 56, 57, 46]
theorem okb_cut (c : UInt8) : cutset.contains c = okb c := by
  have h : ∀ n : Fin 256, cutset.contains (UInt8.ofNat n.val) = okb (UInt8.ofNat n.val) := by decide +kernel
  have := h ⟨c.toNat, c.toNat_lt⟩
  simpa using this
theorem dropWhile_nil {p : UInt8 → Bool} : ∀ {l : List UInt8}, l.dropWhile p = [] ↔ l.all p = true
  | [] => by simp
  | c :: l => by
    by_cases h : p c = true
    · rw [List.dropWhile_cons_of_pos h, dropWhile_nil, List.all_cons, h, Bool.true_and]
    · rw [List.dropWhile_cons_of_neg h, List.all_cons]
      simp [h]
theorem trim_nil (l : List UInt8) : Lib.trimS l cutset = [] ↔ l.all okb = true := by
  have e : (fun c => cutset.contains c) = okb := funext okb_cut
  unfold Lib.trimS Lib.trimLeftS Lib.trimRightS
  rw [e, dropWhile_nil]
  constructor
  · intro h
    have h1 : (l.reverse.dropWhile okb) = [] := by
      rcases hq : l.reverse.dropWhile okb with _ | ⟨c, r⟩
      · rfl
      · exfalso
        have h2 : okb c = false := by
          have h3 := List.head?_dropWhile_not okb l.reverse
          rw [hq] at h3
          simpa using h3
        rw [hq, List.all_reverse, List.all_cons, h2] at h
        cases h
    rw [dropWhile_nil, List.all_reverse] at h1
    exact h1
  · intro h
    have h1 : (l.reverse.dropWhile okb) = [] := by rw [dropWhile_nil, List.all_reverse]; exact h
    rw [h1]; rfl
end Go.Cv.Dk
