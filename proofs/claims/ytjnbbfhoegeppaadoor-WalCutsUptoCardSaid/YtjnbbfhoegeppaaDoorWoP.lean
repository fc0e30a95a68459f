/-
  A log on a disk, in plain words.
-/
import Derived.Test.YtjnbbfhoegeppaaDoorDkP
import Derived.Test.YtjnbbfhoegeppaaDoorWalFns2
set_option linter.unusedSimpArgs false
set_option linter.unusedVariables false
namespace Go.Cv.Wal
open Go Go.Cv.Dk
/-- A record is appended; a log is cleared; an error's number ahead. -/
def lapp (bump : Int → Int) (S : DS) (x b : List UInt8) : Nat × DS :=
  if 2097152 < b.length then (2, S) else if (Dk.app bump S x (frame b)).1 ≠ 0 then Dk.app bump S x (frame b) else Dk.syn bump (Dk.app bump S x (frame b)).2 x
def lclr (bump : Int → Int) (S : DS) (x : List UInt8) : Nat × DS := (if (Dk.trunc bump S x 0).1 = 9 then 0 else (Dk.trunc bump S x 0).1, (Dk.trunc bump S x 0).2)
/-- What an opening leaves of a file of which u bytes are whole frames. -/
def lcut (bump : Int → Int) (S : DS) (x : List UInt8) (u : Nat) : Nat × DS := if u < (cont S x).length then Dk.trunc bump S x u else (0, S)
theorem flat_nil : flat [] = [] := rfl
/-- What is whole, and whole frames behind it. -/
theorem scans_more {l : List UInt8} {R M : List (List UInt8)} {u : Nat} (h : Scans l R u) (hM : ∀ r ∈ M, r.length ≤ 2097152) : Scans (l.take u ++ flat M) (R ++ M) (l.take u ++ flat M).length := by
  refine ⟨Nat.le_refl _, ?_, fun r hr => ?_, ?_⟩
  · rw [List.take_length]
    show flat (R ++ M) = _
    rw [flat_append]
    congr 1
    exact h.eq
  · rcases List.mem_append.1 hr with hr | hr
    · exact h.small r hr
    · exact hM r hr
  · rw [List.drop_length]; rfl
theorem scans_all {M : List (List UInt8)} (hM : ∀ r ∈ M, r.length ≤ 2097152) : Scans (flat M) M (flat M).length := by
  have h := scans_more (l := []) (R := []) (u := 0) scans_empty hM
  simpa using h
theorem Scans.pos {l : List UInt8} {R : List (List UInt8)} {u : Nat} (h : Scans l R u) : (l.take u).length = u := by rw [List.length_take]; have := h.le; omega
/-- One file on a disk whose power is on and stays. -/
structure Lone (S : DS) (x b : List UInt8) : Prop where
  off : S.off = false
  bud : S.bud = -1
  l : ∃ y, S.l = [⟨x, b, y⟩]
theorem Lone.get {S : DS} {x b : List UInt8} (h : Lone S x b) : ∃ y, Dk.get S.l x = some ⟨x, b, y⟩ := by
  obtain ⟨y, hl⟩ := h.l
  exact ⟨y, by rw [hl]; simp [Dk.get]⟩
theorem Lone.cont {S : DS} {x b : List UInt8} (h : Lone S x b) : Dk.cont S x = b := by
  obtain ⟨y, hg⟩ := h.get
  unfold Dk.cont; rw [hg]
theorem Lone.fnd {S : DS} {x b : List UInt8} (h : Lone S x b) : fnd S x = 0 := by
  obtain ⟨y, hg⟩ := h.get
  unfold Dk.fnd Dk.has; rw [h.off, hg]; rfl
theorem Lone.len {S : DS} {x b : List UInt8} (h : Lone S x b) : S.l.length = 1 := by
  obtain ⟨y, hl⟩ := h.l
  rw [hl]; rfl
theorem Lone.used {S : DS} {x b : List UInt8} (h : Lone S x b) : used S.l = b.length := by
  obtain ⟨y, hl⟩ := h.l
  rw [hl]; simp [Dk.used]
variable {bump : Int → Int}
theorem Lone.step {S : DS} {x b : List UInt8} (h : Lone S x b) : stepd S bump = (true, { S with st := bump (S.st + 1) }) := by
  unfold stepd
  rw [if_neg (by rw [h.bud]; decide), if_neg (by rw [h.bud]; decide)]
theorem Lone.app {S : DS} {x b : List UInt8} (h : Lone S x b) (g : List UInt8) (hx : nameOk x = true) (hr : (b.length : Int) + g.length ≤ S.room) : (Dk.app bump S x g).1 = 0 ∧ Lone (Dk.app bump S x g).2 x (b ++ g) ∧ (Dk.app bump S x g).2.room = S.room := by
  obtain ⟨y, hl⟩ := h.l
  have hu := h.used
  have e : Dk.app bump S x g = (0, { S with st := bump (S.st + 1), l := [⟨x, b ++ g, y⟩] }) := by
    unfold Dk.app
    rw [if_neg (by rw [hx]; simp), if_neg (by rw [h.off]; simp), if_neg (by rw [hu]; omega), h.step]
    have hm : may S.l x = S.l := if_pos (by unfold Dk.has; obtain ⟨y, hg⟩ := h.get; rw [hg]; rfl)
    rw [hm, hl]
    simp [Dk.upd]
  rw [e]
  exact ⟨rfl, ⟨h.off, h.bud, y, rfl⟩, rfl⟩
theorem Lone.syn {S : DS} {x b : List UInt8} (h : Lone S x b) : (Dk.syn bump S x).1 = 0 ∧ Lone (Dk.syn bump S x).2 x b ∧ (Dk.syn bump S x).2.room = S.room := by
  obtain ⟨y, hl⟩ := h.l
  have e : Dk.syn bump S x = (0, { S with st := bump (S.st + 1), l := [⟨x, b, b.length⟩] }) := by
    unfold Dk.syn
    rw [if_neg (by rw [h.fnd]; simp), h.step, hl]
    simp [Dk.upd]
  rw [e]
  exact ⟨rfl, ⟨h.off, h.bud, _, rfl⟩, rfl⟩
theorem Lone.lapp {S : DS} {x b : List UInt8} (h : Lone S x b) (g : List UInt8) (hx : nameOk x = true) (hg : g.length ≤ 2097152) (hr : (b.length : Int) + (frame g).length ≤ S.room) : (lapp bump S x g).1 = 0 ∧ Lone (lapp bump S x g).2 x (b ++ frame g) ∧ (lapp bump S x g).2.room = S.room := by
  obtain ⟨h1, h2, h3⟩ := h.app (bump := bump) (frame g) hx hr
  unfold Wal.lapp
  rw [if_neg (by omega), if_neg (by rw [h1]; simp)]
  obtain ⟨h4, h5, h6⟩ := h2.syn (bump := bump)
  exact ⟨h4, h5, h6.trans h3⟩
theorem Lone.trunc {S : DS} {x b : List UInt8} (h : Lone S x b) (u : Nat) (hu : u ≤ b.length) : (Dk.trunc bump S x u).1 = 0 ∧ Lone (Dk.trunc bump S x u).2 x (b.take u) ∧ (Dk.trunc bump S x u).2.room = S.room := by
  obtain ⟨y, hl⟩ := h.l
  have e : Dk.trunc bump S x u = (0, { S with st := bump (S.st + 1), l := [⟨x, b.take u, u⟩] }) := by
    unfold Dk.trunc
    rw [if_neg (by rw [h.fnd]; simp), h.cont, if_neg (by omega), h.step, hl]
    simp [Dk.upd]
  rw [e]
  exact ⟨rfl, ⟨h.off, h.bud, _, rfl⟩, rfl⟩
theorem Lone.lcut {S : DS} {x b : List UInt8} (h : Lone S x b) (u : Nat) (hu : u ≤ b.length) : (lcut bump S x u).1 = 0 ∧ Lone (lcut bump S x u).2 x (b.take u) ∧ (lcut bump S x u).2.room = S.room := by
  unfold Wal.lcut
  rw [h.cont]
  split
  · exact h.trunc u hu
  · have : b.take u = b := List.take_of_length_le (by omega)
    rw [this]
    exact ⟨rfl, h, rfl⟩
theorem Lone.lclr {S : DS} {x b : List UInt8} (h : Lone S x b) : (lclr bump S x).1 = 0 ∧ Lone (lclr bump S x).2 x [] ∧ (lclr bump S x).2.room = S.room := by
  obtain ⟨h1, h2, h3⟩ := h.trunc (bump := bump) 0 (Nat.zero_le _)
  unfold Wal.lclr
  have h1' : (Dk.trunc bump S x 0).1 = 0 := h1
  rw [h1']
  exact ⟨rfl, h2, h3⟩
/-- A new disk's first file. -/
theorem lone_first (room : Int) (x b : List UInt8) (hx : nameOk x = true) (hr : (b.length : Int) ≤ room) : (Dk.app bump ⟨room, [], false, -1, 0⟩ x b).1 = 0 ∧ Lone (Dk.app bump ⟨room, [], false, -1, 0⟩ x b).2 x b ∧ (Dk.app bump ⟨room, [], false, -1, 0⟩ x b).2.room = room := by
  have e : Dk.app bump ⟨room, [], false, -1, 0⟩ x b = (0, ⟨room, [⟨x, b, 0⟩], false, -1, bump (0 + 1)⟩) := by
    unfold Dk.app
    rw [if_neg (by rw [hx]; simp), if_neg (by simp), if_neg (by show ¬ ((b.length : Int) > room - ((0 : Nat) : Int)); omega)]
    have : may [] x = [⟨x, [], 0⟩] := rfl
    unfold stepd
    simp [this, Dk.upd]
  rw [e]
  exact ⟨rfl, ⟨rfl, rfl, _, rfl⟩, rfl⟩
/-- A disk whose power is on: no file, or one, all of it synced. -/
structure Kp (S : DS) (x b : List UInt8) : Prop where
  off : S.off = false
  l : (S.l = [] ∧ b = []) ∨ S.l = [⟨x, b, b.length⟩]
/-- The power went while a record was written behind b. -/
structure Cutd (S : DS) (x b g : List UInt8) : Prop where
  off : S.off = true
  l : S.l = [⟨x, b ++ frame g, b.length⟩]
theorem Kp.used {S : DS} {x b : List UInt8} (h : Kp S x b) : used S.l = b.length := by
  rcases h.l with ⟨hl, rfl⟩ | hl
  · rw [hl]; rfl
  · rw [hl]; simp [Dk.used]
theorem Kp.cont {S : DS} {x b : List UInt8} (h : Kp S x b) : Dk.cont S x = b := by
  unfold Dk.cont
  rcases h.l with ⟨hl, rfl⟩ | hl
  · rw [hl]; rfl
  · rw [hl]; simp [Dk.get]
theorem Kp.len {S : DS} {x b : List UInt8} (h : Kp S x b) : S.l.length ≤ 1 := by
  rcases h.l with ⟨hl, rfl⟩ | hl <;> rw [hl] <;> simp
theorem Kp.app {S : DS} {x b : List UInt8} (h : Kp S x b) (g : List UInt8) (hx : nameOk x = true) (hr : (b.length : Int) + g.length ≤ S.room) :
    Dk.app bump S x g = (if S.bud = 0 then 11 else 0, { (stepd S bump).2 with l := [⟨x, b ++ g, b.length⟩] }) := by
  have hu := h.used
  unfold Dk.app
  rw [if_neg (by rw [hx]; simp), if_neg (by rw [h.off]; simp), if_neg (by rw [hu]; omega)]
  have hm : Dk.upd (may S.l x) x (fun f => { f with b := f.b ++ g }) = [⟨x, b ++ g, b.length⟩] := by
    rcases h.l with ⟨hl, rfl⟩ | hl
    · rw [hl]
      have : may [] x = [⟨x, [], 0⟩] := rfl
      rw [this]; simp [Dk.upd]
    · have : may S.l x = S.l := if_pos (by unfold Dk.has Dk.get; rw [hl]; simp)
      rw [this, hl]; simp [Dk.upd]
  rw [hm]
  have e : (if (stepd S bump).1 = true then 0 else 11) = if S.bud = 0 then 11 else 0 := by
    unfold stepd
    by_cases hb : S.bud = 0
    · rw [if_pos hb, if_pos hb]; rfl
    · rw [if_neg hb, if_neg hb]; rfl
  rw [e]
theorem Kp.lapp {S : DS} {x b : List UInt8} (h : Kp S x b) (g : List UInt8) (hx : nameOk x = true) (hg : g.length ≤ 2097152) (hr : (b.length : Int) + (frame g).length ≤ S.room) :
    (((lapp bump S x g).1 = 0 ∧ Kp (lapp bump S x g).2 x (b ++ frame g)) ∨ ((lapp bump S x g).1 = 11 ∧ Cutd (lapp bump S x g).2 x b g)) ∧ (lapp bump S x g).2.room = S.room := by
  have ha := h.app (bump := bump) (frame g) hx hr
  unfold Wal.lapp
  rw [if_neg (by omega), ha]
  by_cases hb : S.bud = 0
  · rw [if_pos hb]
    have e : stepd S bump = (false, { S with off := true }) := by unfold stepd; exact if_pos hb
    rw [e]
    exact ⟨.inr ⟨rfl, rfl, rfl⟩, rfl⟩
  · rw [if_neg hb]
    have e : stepd S bump = (true, { S with bud := if S.bud > 0 then S.bud - 1 else S.bud, st := bump (S.st + 1) }) := by unfold stepd; exact if_neg hb
    rw [e]
    have hf : fnd { ({ S with bud := if S.bud > 0 then S.bud - 1 else S.bud, st := bump (S.st + 1) } : DS) with l := [⟨x, b ++ frame g, b.length⟩] } x = 0 := by
      unfold Dk.fnd Dk.has Dk.get
      simp [h.off]
    simp only [ne_eq, not_true_eq_false, if_false]
    unfold Dk.syn
    rw [if_neg (by rw [hf]; simp)]
    generalize hS2 : ({ ({ S with bud := if S.bud > 0 then S.bud - 1 else S.bud, st := bump (S.st + 1) } : DS) with l := [⟨x, b ++ frame g, b.length⟩] } : DS) = S2 at *
    have hl2 : S2.l = [⟨x, b ++ frame g, b.length⟩] := by rw [← hS2]
    have ho2 : S2.off = false := by rw [← hS2]; exact h.off
    have hr2 : S2.room = S.room := by rw [← hS2]
    by_cases hb2 : S2.bud = 0
    · have e2 : stepd S2 bump = (false, { S2 with off := true }) := by unfold stepd; exact if_pos hb2
      rw [e2]
      exact ⟨.inr ⟨rfl, rfl, hl2⟩, hr2⟩
    · have e2 : stepd S2 bump = (true, { S2 with bud := if S2.bud > 0 then S2.bud - 1 else S2.bud, st := bump (S2.st + 1) }) := by unfold stepd; exact if_neg hb2
      rw [e2]
      refine ⟨.inl ⟨rfl, ho2, .inr ?_⟩, hr2⟩
      show Dk.upd S2.l x _ = _
      rw [hl2]
      simp [Dk.upd]
theorem Kp.pow {S : DS} {x b : List UInt8} (h : Kp S x b) (keep : Int) : Kp (Dk.pow S keep) x b ∧ (Dk.pow S keep).bud = -1 ∧ (Dk.pow S keep).room = S.room := by
  have e : Dk.pow S keep = { S with bud := -1 } := if_neg (by rw [h.off]; simp)
  rw [e]
  exact ⟨⟨h.off, h.l⟩, rfl, rfl⟩
theorem Kp.lone {S : DS} {x b : List UInt8} (h : Kp S x b) (hb : S.bud = -1) : (S.off = false ∧ S.l = [] ∧ b = []) ∨ Lone S x b := by
  rcases h.l with ⟨hl, rfl⟩ | hl
  · exact .inl ⟨h.off, hl, rfl⟩
  · exact .inr ⟨h.off, hb, _, hl⟩
/-- What the power leaves: a first part, no shorter than what was synced. -/
theorem Cutd.pow {S : DS} {x b g : List UInt8} (h : Cutd S x b g) (keep : Int) : ∃ c, b.length ≤ c ∧ c ≤ (b ++ frame g).length ∧ Lone (Dk.pow S keep) x ((b ++ frame g).take c) ∧ (Dk.pow S keep).room = S.room := by
  have e : Dk.pow S keep = { S with bud := -1, off := false, l := S.l.map (cutf keep) } := if_pos h.off
  have hm := Nat.mod_lt (max keep 0).toNat (show 0 < (b ++ frame g).length - b.length + 1 by omega)
  have hle : b.length ≤ (b ++ frame g).length := by simp
  refine ⟨b.length + (max keep 0).toNat % ((b ++ frame g).length - b.length + 1), by omega, by omega, ?_, ?_⟩
  · rw [e]
    refine ⟨rfl, rfl, b.length + (max keep 0).toNat % ((b ++ frame g).length - b.length + 1), ?_⟩
    show S.l.map (cutf keep) = _
    rw [h.l]; rfl
  · rw [e]
/-- What an opening finds behind a cut: k records, or one more. -/
theorem cut_scans {l : List (List UInt8)} {k c : Nat} (hk : k < l.length) (hs : ∀ r ∈ l.take (k + 1), r.length ≤ 2097152) (h1 : (flat (l.take k)).length ≤ c) (h2 : c ≤ (flat (l.take k) ++ frame l[k]).length) :
    ∃ j u, (j = k ∨ j = k + 1) ∧ j ≤ l.length ∧ Scans ((flat (l.take k) ++ frame l[k]).take c) (l.take j) u := by
  have hf := flat_succ hk
  rw [← hf] at h2 ⊢
  have hlen : (l.take (k + 1)).length = k + 1 := by rw [List.length_take]; omega
  have e1 : endOf (l.take (k + 1)) k = (flat (l.take k)).length := by
    unfold endOf
    rw [List.take_take, Nat.min_eq_left (by omega)]
  have e2 : endOf (l.take (k + 1)) (k + 1) = (flat (l.take (k + 1))).length := by
    unfold endOf
    rw [List.take_take, Nat.min_self]
  by_cases hc : c < (flat (l.take (k + 1))).length
  · have := scans_cut (R := l.take (k + 1)) (c := c) (k := k) hs (by omega) (by rw [e1]; exact h1) (.inr ⟨by omega, by rw [e2]; exact hc⟩) (by omega)
    rw [List.take_take, Nat.min_eq_left (by omega)] at this
    exact ⟨k, _, .inl rfl, by omega, this⟩
  · have := scans_cut (R := l.take (k + 1)) (c := c) (k := k + 1) hs (by omega) (by rw [e2]; omega) (.inl hlen.symm) (by omega)
    rw [List.take_take, Nat.min_self] at this
    exact ⟨k + 1, _, .inr rfl, by omega, this⟩
end Go.Cv.Wal
