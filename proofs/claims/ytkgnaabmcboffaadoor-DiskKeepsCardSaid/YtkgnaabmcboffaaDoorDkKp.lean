/-
  What a disk's script of the statement DiskKeeps leaves, in plain words.
-/
import Derived.Test.YtkgnaabmcboffaaDoorDkP
set_option linter.unusedSimpArgs false
set_option linter.unusedVariables false
namespace Go.Cv.Dk
open Go
def R30 : Int := 1073741824
/-- A disk with one file, "x". -/
def one (b : List UInt8) (y : Nat) (off : Bool) (bud st : Int) : DS := ⟨R30, [⟨[120], b, y⟩], off, bud, st⟩
variable (bump : Int → Int)
theorem ok120 : nameOk [120] = true := by decide
theorem ok121 : nameOk [121] = true := by decide
theorem one_get (b : List UInt8) (y : Nat) (off : Bool) (bud st : Int) : get (one b y off bud st).l [120] = some ⟨[120], b, y⟩ := rfl
theorem one_used (b : List UInt8) (y : Nat) (off : Bool) (bud st : Int) : used (one b y off bud st).l = b.length := by simp [one, used]
theorem one_upd (b : List UInt8) (y : Nat) (off : Bool) (bud st : Int) (g : PF → PF) : upd (one b y off bud st).l [120] g = [g ⟨[120], b, y⟩] := rfl
theorem app_first (f : List UInt8) (hf : f.length ≤ 1000) : app bump ⟨R30, [], false, -1, 0⟩ [120] f = (0, one f 0 false (-1) (bump (0 + 1))) := by
  unfold app
  rw [if_neg (by rw [ok120]; simp), if_neg (by simp), if_neg (by show ¬ ((f.length : Int) > R30 - ((0 : Nat) : Int)); unfold R30; omega)]
  rfl
theorem app_one (b g : List UInt8) (y : Nat) (bud st : Int) (h : b.length + g.length ≤ 1000000) :
    app bump (one b y false bud st) [120] g = if bud = 0 then (11, one (b ++ g) y true bud st) else (0, one (b ++ g) y false (if bud > 0 then bud - 1 else bud) (bump (st + 1))) := by
  unfold app
  rw [if_neg (by rw [ok120]; simp), if_neg (by show ¬ (false = true); simp), if_neg (by rw [one_used]; show ¬ ((g.length : Int) > R30 - (b.length : Nat)); unfold R30; omega)]
  by_cases hb : bud = 0
  · rw [if_pos hb]
    have e : stepd (one b y false bud st) bump = (false, one b y true bud st) := by unfold stepd; exact if_pos hb
    rw [e]; rfl
  · rw [if_neg hb]
    have e : stepd (one b y false bud st) bump = (true, one b y false (if bud > 0 then bud - 1 else bud) (bump (st + 1))) := by unfold stepd; exact if_neg hb
    rw [e]; rfl
theorem app_off (b g x : List UInt8) (y : Nat) (bud st : Int) (hx : nameOk x = true) : app bump (one b y true bud st) x g = (11, one b y true bud st) := by
  unfold app
  rw [if_neg (by rw [hx]; simp), if_pos (show (one b y true bud st).off = true from rfl)]
theorem syn_one (b : List UInt8) (y : Nat) (bud st : Int) :
    syn bump (one b y false bud st) [120] = if bud = 0 then (11, one b y true bud st) else (0, one b b.length false (if bud > 0 then bud - 1 else bud) (bump (st + 1))) := by
  have hf : fnd (one b y false bud st) [120] = 0 := rfl
  unfold syn
  rw [if_neg (by rw [hf]; simp)]
  by_cases hb : bud = 0
  · rw [if_pos hb]
    have e : stepd (one b y false bud st) bump = (false, one b y true bud st) := by unfold stepd; exact if_pos hb
    rw [e]; rfl
  · rw [if_neg hb]
    have e : stepd (one b y false bud st) bump = (true, one b y false (if bud > 0 then bud - 1 else bud) (bump (st + 1))) := by unfold stepd; exact if_neg hb
    rw [e]; rfl
theorem syn_off (b : List UInt8) (y : Nat) (bud st : Int) : syn bump (one b y true bud st) [120] = (11, one b y true bud st) := by
  have hf : fnd (one b y true bud st) [120] = 11 := rfl
  unfold syn
  rw [if_pos (by rw [hf]; simp), hf]
theorem cut_one (b : List UInt8) (y : Nat) (bud st k : Int) (hk : 0 ≤ k) : cutd (one b y false bud st) k = (0, one b y false k st) := by
  unfold cutd
  rw [if_neg (by omega)]; rfl
theorem pow_one (b : List UInt8) (y : Nat) (bud st keep : Int) : pow (one b y true bud st) keep = one (cutf keep ⟨[120], b, y⟩).b (cutf keep ⟨[120], b, y⟩).sy false (-1) st := rfl
/-- The script up to the cut. -/
def k2 (f : List UInt8) : DS := one f f.length false (-1) (bump (bump (0 + 1) + 1))
def k3 (f : List UInt8) (k : Int) : DS := one f f.length false k (bump (bump (0 + 1) + 1))
def k4 (f g : List UInt8) (k : Int) : DS := (app bump (k3 bump f k) [120] g).2
def k5 (f g : List UInt8) (k : Int) : DS := (syn bump (k4 bump f g k) [120]).2
def k6 (f g : List UInt8) (k : Int) : DS := (app bump (k5 bump f g k) [121] g).2
def k7 (f g : List UInt8) (k keep : Int) : DS := pow (k6 bump f g k) keep
/-- Two files. -/
theorem app_two (b g : List UInt8) (y : Nat) (st : Int) (h : b.length + g.length ≤ 1000000) :
    app bump (one b y false 0 st) [121] g = (11, ⟨R30, [⟨[120], b, y⟩, ⟨[121], g, 0⟩], true, 0, st⟩) := by
  unfold app
  rw [if_neg (by rw [ok121]; simp), if_neg (by show ¬ (false = true); simp), if_neg (by rw [one_used]; show ¬ ((g.length : Int) > R30 - (b.length : Nat)); unfold R30; omega)]
  rfl
theorem take_cut (f g : List UInt8) (keep : Int) : ∃ j, j ≤ g.length ∧ (cutf keep ⟨[120], f ++ g, f.length⟩).b = f ++ g.take j := by
  have hm := Nat.mod_lt (max keep 0).toNat (show 0 < (f ++ g).length - f.length + 1 by omega)
  have he : (f ++ g).length - f.length + 1 = g.length + 1 := by simp
  refine ⟨(max keep 0).toNat % ((f ++ g).length - f.length + 1), by rw [he] at hm ⊢; omega, ?_⟩
  show (f ++ g).take (f.length + _) = _
  rw [List.take_length_add_append]
theorem keeps (f g : List UInt8) (k keep : Int) (hf : f.length ≤ 1000) (hg : g.length ≤ 1000) (h0 : 0 ≤ k) (h3 : k < 3) :
    (∀ S, S = k4 bump f g k ∨ S = k5 bump f g k ∨ S = k6 bump f g k → (cont S [120]).length ≤ 2000 ∧ (cont S [121]).length ≤ 2000 ∧ S.l.length ≤ 2) ∧ fnd (k7 bump f g k keep) [120] = 0 ∧
      ∃ j, j ≤ g.length ∧ cont (k7 bump f g k keep) [120] = f ++ g.take j ∧ (¬ k < 2 → j = g.length) := by
  have e3 : k4 bump f g k = if k = 0 then one (f ++ g) f.length true k (bump (bump (0 + 1) + 1)) else one (f ++ g) f.length false (if k > 0 then k - 1 else k) (bump (bump (bump (0 + 1) + 1) + 1)) := by
    unfold k4 k3
    rw [app_one _ _ _ _ _ _ (by omega)]
    split <;> rfl
  have hl : (f ++ g).length ≤ 2000 := by simp; omega
  generalize bump (bump (0 + 1) + 1) = s2 at *
  have hc1 : ∀ off bud st y, (cont (one (f ++ g) y off bud st) [120]).length ≤ 2000 ∧ (cont (one (f ++ g) y off bud st) [121]).length ≤ 2000 ∧ (one (f ++ g) y off bud st).l.length ≤ 2 := fun off bud st y => ⟨hl, by show ([] : List UInt8).length ≤ 2000; simp, by show 1 ≤ 2; omega⟩
  rcases (show k = 0 ∨ k = 1 ∨ k = 2 by omega) with rfl | rfl | rfl
  · rw [if_pos rfl] at e3
    have e5 : k5 bump f g 0 = one (f ++ g) f.length true 0 s2 := by unfold k5; rw [e3, syn_off]
    have e6 : k6 bump f g 0 = one (f ++ g) f.length true 0 s2 := by unfold k6; rw [e5, app_off _ _ _ _ _ _ _ ok121]
    have e7 : k7 bump f g 0 keep = one (cutf keep ⟨[120], f ++ g, f.length⟩).b (cutf keep ⟨[120], f ++ g, f.length⟩).sy false (-1) s2 := by unfold k7; rw [e6, pow_one]
    refine ⟨?_, ?_, ?_⟩
    · rintro S (rfl | rfl | rfl)
      · rw [e3]; exact hc1 _ _ _ _
      · rw [e5]; exact hc1 _ _ _ _
      · rw [e6]; exact hc1 _ _ _ _
    · rw [e7]; rfl
    · obtain ⟨j, hj, hb⟩ := take_cut f g keep
      refine ⟨j, hj, ?_, by omega⟩
      rw [e7]; exact hb
  · rw [if_neg (by decide)] at e3
    generalize bump (s2 + 1) = s3 at *
    have e5 : k5 bump f g 1 = one (f ++ g) f.length true 0 s3 := by unfold k5; rw [e3]; show (syn bump (one (f ++ g) f.length false 0 s3) [120]).2 = _; rw [syn_one, if_pos rfl]
    have e6 : k6 bump f g 1 = one (f ++ g) f.length true 0 s3 := by unfold k6; rw [e5, app_off _ _ _ _ _ _ _ ok121]
    have e7 : k7 bump f g 1 keep = one (cutf keep ⟨[120], f ++ g, f.length⟩).b (cutf keep ⟨[120], f ++ g, f.length⟩).sy false (-1) s3 := by unfold k7; rw [e6, pow_one]
    refine ⟨?_, ?_, ?_⟩
    · rintro S (rfl | rfl | rfl)
      · rw [e3]; exact hc1 _ _ _ _
      · rw [e5]; exact hc1 _ _ _ _
      · rw [e6]; exact hc1 _ _ _ _
    · rw [e7]; rfl
    · obtain ⟨j, hj, hb⟩ := take_cut f g keep
      refine ⟨j, hj, ?_, by omega⟩
      rw [e7]; exact hb
  · rw [if_neg (by decide)] at e3
    generalize bump (s2 + 1) = s3 at *
    have e5 : k5 bump f g 2 = one (f ++ g) (f ++ g).length false 0 (bump (s3 + 1)) := by unfold k5; rw [e3]; show (syn bump (one (f ++ g) f.length false 1 s3) [120]).2 = _; rw [syn_one, if_neg (by decide)]; rfl
    generalize bump (s3 + 1) = s4 at *
    have e6 : k6 bump f g 2 = ⟨R30, [⟨[120], f ++ g, (f ++ g).length⟩, ⟨[121], g, 0⟩], true, 0, s4⟩ := by unfold k6; rw [e5, app_two _ _ _ _ _ (by omega)]
    refine ⟨?_, ?_, ?_⟩
    · rintro S (rfl | rfl | rfl)
      · rw [e3]; exact hc1 _ _ _ _
      · rw [e5]; exact hc1 _ _ _ _
      · rw [e6]; exact ⟨hl, by show g.length ≤ 2000; omega, by show 2 ≤ 2; omega⟩
    · unfold k7; rw [e6]; rfl
    · refine ⟨g.length, Nat.le_refl _, ?_, fun _ => rfl⟩
      unfold k7; rw [e6]
      show (f ++ g).take ((f ++ g).length + _ % ((f ++ g).length - (f ++ g).length + 1)) = _
      rw [Nat.sub_self, Nat.zero_add, Nat.mod_one, Nat.add_zero, List.take_length, List.take_length]
end Go.Cv.Dk
