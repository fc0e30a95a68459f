/-
  Texts of the lemmas below the claim, put together: KwJ KwN KwP.
-/
import Derived.Test.YtjnbbfhoegeppaaGreatDoorMWalF
import Derived.Test.YtjnbbfhoegeppaaGreatDoorMKvI
import Derived.Test.YtjnbbfhoegeppaaGreatDoorMKvL
import Derived.Test.YtjnbbfhoegeppaaGreatDoorMKvT
import Derived.Test.YtjnbbfhoegeppaaGreatDoorMKvR
section
/-
  Plain: what was written is read.
-/
set_option linter.unusedSimpArgs false
set_option linter.unusedVariables false
namespace Go.Cv.Kv
open Go Go.Cv.Dk
theorem tk_app {n : Nat} {a r : List UInt8} (h : a.length = n) : tk n (a ++ r) = some (a, r) := by
  unfold tk
  subst h
  rw [if_pos (by simp), List.take_left, List.drop_left]
theorem nm_app {n v : Nat} (r : List UInt8) (h : v < 256 ^ n) : nm n (leN n v ++ r) = some (v, r) := by
  unfold nm
  rw [tk_app (leN_len n v)]
  simp only [Option.map_some]
  rw [num_leN, Nat.mod_eq_of_lt h]
theorem nm_one (x : UInt8) (r : List UInt8) : nm 1 (x :: r) = some (x.toNat, r) := by
  unfold nm tk
  rw [if_pos (by simp)]
  simp [num]
def nrm (w : PW) : PW := ⟨w.k, if w.d then [] else w.v, w.d⟩
theorem doW_nrm (l : List PP) (w : PW) : doW l (nrm w) = doW l w := by
  unfold doW nrm
  cases w.d <;> simp
theorem doB_nrm (K : KS) (W : List PW) : doB K (W.map nrm) = doB K W := by
  unfold doB
  rw [List.foldl_map]
  simp only [doW_nrm, List.length_map]
theorem keyD_app {k : List UInt8} (r : List UInt8) (h1 : 1 ≤ k.length) (h2 : k.length ≤ 255) : keyD (UInt8.ofNat k.length :: (k ++ r)) = some (k, r) := by
  have e : (UInt8.ofNat k.length).toNat = k.length := by rw [UInt8.toNat_ofNat']; omega
  unfold keyD
  rw [nm_one, e]
  simp only [Option.bind_some]
  rw [if_neg (by omega), tk_app rfl]
theorem valD_app {v : List UInt8} (r : List UInt8) (h : v.length ≤ 262144) : valD (leN 4 v.length ++ (v ++ r)) = some (v, r) := by
  have e4 : (256 : Nat) ^ 4 = 4294967296 := by decide
  unfold valD
  rw [nm_app _ (by omega)]
  simp only [Option.bind_some]
  rw [if_neg (by omega), tk_app rfl]
theorem wrtD_app {w : PW} (r : List UInt8) (h1 : badK w = false) (h2 : badV w = false) : wrtD (encW w ++ r) = some (nrm w, r) := by
  have hk := of_decide_eq_false h1
  unfold wrtD encW
  rw [List.cons_append, List.append_assoc, keyD_app _ (by omega) (by omega)]
  simp only [Option.bind_some]
  rcases hd : w.d with _ | _
  · have hv : w.v.length ≤ 262144 := by
      unfold badV at h2
      rw [hd] at h2
      have : decide (262144 < w.v.length) = false := by simpa using h2
      have := of_decide_eq_false this
      omega
    simp only [Bool.false_eq_true, if_false, List.cons_append]
    rw [nm_one]
    simp only [Option.bind_some]
    rw [if_pos (by rfl), List.append_assoc, valD_app r hv]
    simp [nrm, hd]
  · simp only [if_true, List.cons_append, List.nil_append]
    rw [nm_one]
    simp only [Option.bind_some]
    rw [if_neg (by decide), if_pos (by rfl)]
    simp [nrm, hd]
theorem wrtsD_app : ∀ {W : List PW} (r : List UInt8), W.any badK = false → W.any badV = false → wrtsD W.length (W.flatMap encW ++ r) = some (W.map nrm, r)
  | [], r, _, _ => by simp [wrtsD]
  | w :: W, r, h1, h2 => by
    simp only [List.any_cons, Bool.or_eq_false_iff] at h1 h2
    rw [List.length_cons, wrtsD, List.flatMap_cons, List.append_assoc, wrtD_app _ h1.1 h2.1]
    simp only [Option.bind_some]
    rw [wrtsD_app r h1.2 h2.2]
    simp
theorem may0_ok {W : List PW} (h : may0 W = 0) : W.length ≤ 4096 ∧ W.any badK = false ∧ W.any badV = false := by
  unfold may0 at h
  split at h
  · omega
  · split at h
    · omega
    · split at h
      · omega
      · rename_i h1 h2 h3
        exact ⟨by omega, by simpa using h2, by simpa using h3⟩
/-- A batch's record tells the batch. -/
theorem batD_rec {n : Nat} {W : List PW} (hn : n < 18446744073709551616) (h : may0 W = 0) (h0 : W ≠ []) : batD (recB n W) = some (n, W.map nrm) := by
  obtain ⟨h1, h2, h3⟩ := may0_ok h
  have e8 : (256 : Nat) ^ 8 = 18446744073709551616 := by decide
  have e2 : (256 : Nat) ^ 2 = 65536 := by decide
  have hl : 1 ≤ W.length := by
    rcases W with _ | ⟨x, y⟩
    · exact absurd rfl h0
    · simp
  unfold batD recB
  rw [nm_app _ (by omega)]
  simp only [Option.bind_some]
  rw [nm_app _ (by omega)]
  simp only [Option.bind_some]
  have := wrtsD_app (W := W) [] h2 h3
  rw [List.append_nil] at this
  rw [this]
  simp only [Option.bind_some]
  rw [if_pos ⟨by trivial, hl, h1⟩]
theorem prD_app {last : List UInt8} {p : PP} (r : List UInt8) (h1 : 1 ≤ p.k.length) (h2 : p.k.length ≤ 255) (h3 : p.v.length ≤ 262144) (h4 : bytesBefore last p.k = true) : prD last (encP p ++ r) = some (p, r) := by
  unfold prD encP
  rw [List.cons_append, List.append_assoc, keyD_app _ h1 h2]
  simp only [Option.bind_some]
  rw [List.append_assoc, valD_app _ h3]
  simp only [Option.bind_some]
  rw [if_pos h4]
theorem prsD_app : ∀ {l : List PP} (last r : List UInt8), (∀ p ∈ l, 1 ≤ p.k.length ∧ p.k.length ≤ 255 ∧ p.v.length ≤ 262144) → (∀ p ∈ l, bytesBefore last p.k = true) → Ris PP.k l → prsD l.length last (l.flatMap encP ++ r) = some (l, r)
  | [], last, r, _, _, _ => by simp [prsD]
  | p :: l, last, r, h1, h2, h3 => by
    obtain ⟨a, b, c⟩ := h1 p (by simp)
    rw [List.length_cons, prsD, List.flatMap_cons, List.append_assoc, prD_app _ a b c (h2 p (by simp))]
    simp only [Option.bind_some]
    rw [prsD_app p.k r (fun q hq => h1 q (by simp [hq])) (fun q hq => (List.pairwise_cons.1 h3).1 q hq) (List.pairwise_cons.1 h3).2]
    simp
/-- A state that a snapshot's record tells. -/
structure KS.Ok (K : KS) : Prop where
  ris : Ris PP.k K.l
  len : ∀ p ∈ K.l, 1 ≤ p.k.length ∧ p.k.length ≤ 255 ∧ p.v.length ≤ 262144
theorem snpD_snp {K : KS} (h : K.Ok) (hn : K.n ≤ 4611686018427387904) (hl : K.l.length < 4294967296) : snpD (snpB K) = some K := by
  have e8 : (256 : Nat) ^ 8 = 18446744073709551616 := by decide
  have e4 : (256 : Nat) ^ 4 = 4294967296 := by decide
  unfold snpD snpB
  rw [nm_app _ (by omega)]
  simp only [Option.bind_some]
  rw [nm_app _ (by omega)]
  simp only [Option.bind_some]
  have := prsD_app [] [] h.len (fun p hp => by
    have := (h.len p hp).1
    rcases hk : p.k with _ | ⟨x, y⟩
    · rw [hk] at this; simp at this
    · rfl) h.ris
  rw [List.append_nil] at this
  rw [this]
  simp only [Option.bind_some]
  rw [if_pos ⟨trivial, hn⟩]
end Go.Cv.Kv
end
section
/-
  Plain: what a store's disk tells.
-/
set_option linter.unusedSimpArgs false
set_option linter.unusedVariables false
namespace Go.Cv.Kv
open Go Go.Cv.Dk Go.Cv.Wal
/-- Records are done, one after the other. -/
def opnS : Option Nat → KS → List (List UInt8) → Option (Option Nat × KS)
  | last, s, [] => some (last, s)
  | last, s, r :: R => (opn1 last s r).bind fun x => opnS x.1 x.2 R
theorem opnR_S : ∀ (last : Option Nat) (s : KS) (R : List (List UInt8)), opnR last s R = (opnS last s R).map Prod.snd
  | _, _, [] => rfl
  | last, s, r :: R => by
    simp only [opnR, opnS]
    rcases opn1 last s r with _ | x
    · rfl
    · exact opnR_S x.1 x.2 R
theorem opnS_app : ∀ (last : Option Nat) (s : KS) (R : List (List UInt8)) (r : List UInt8), opnS last s (R ++ [r]) = (opnS last s R).bind fun x => opn1 x.1 x.2 r
  | last, s, [], r => by
    simp only [List.nil_append, opnS, Option.bind_some]
    rcases opn1 last s r with _ | x <;> rfl
  | last, s, q :: R, r => by
    simp only [List.cons_append, opnS]
    rcases opn1 last s q with _ | x
    · rfl
    · exact opnS_app x.1 x.2 R r
theorem opn1_inv {last : Option Nat} {K : KS} {r : List UInt8} {x : Option Nat × KS} (h : opn1 last K r = some x) : ∃ z, batD r = some z ∧ ¬ brk last K.n z.1 ∧ x = (some z.1, if K.n < z.1 then doB K z.2 else K) := by
  rcases hz : batD r with _ | z
  · rw [opn1_none hz] at h; cases h
  · by_cases hb : brk last K.n z.1
    · rw [opn1_brk hz hb] at h; cases h
    · rw [opn1_go hz hb] at h
      injection h with h
      exact ⟨z, rfl, hb, h.symm⟩
theorem brk_l {l n m c : Nat} : brk (some l) n c ↔ brk (some l) m c := Iff.rfl
theorem skip_some : ∀ (R : List (List UInt8)) (l0 : Nat) (K0 : KS) (last : Option Nat) (K : KS), opnS (some l0) K0 R = some (last, K) → last = some (l0 + R.length) ∧ ∀ K1 : KS, l0 + R.length ≤ K1.n → opnS (some l0) K1 R = some (last, K1)
  | [], l0, K0, last, K, h => by
    simp only [opnS, Option.some.injEq, Prod.mk.injEq] at h
    exact ⟨h.1.symm, fun K1 _ => by rw [← h.1]; rfl⟩
  | r :: R, l0, K0, last, K, h => by
    simp only [opnS, Option.bind_eq_some_iff] at h
    obtain ⟨x, h1, h2⟩ := h
    obtain ⟨z, hz, hb, rfl⟩ := opn1_inv h1
    have hc : z.1 = l0 + 1 := by
      unfold brk seqB at hb
      simp at hb
      exact hb.2.2
    obtain ⟨h3, h4⟩ := skip_some R z.1 _ last K h2
    refine ⟨by rw [h3, hc, List.length_cons]; congr 1; omega, fun K1 hK => ?_⟩
    rw [List.length_cons] at hK
    simp only [opnS]
    rw [opn1_go hz (fun hb2 => hb (brk_l.1 hb2)), if_neg (by omega)]
    exact h4 K1 (by omega)
/-- Records that a store has done already are skipped. -/
theorem skip {K0 K1 K : KS} {R : List (List UInt8)} {last : Option Nat} (h : opnS none K0 R = some (last, K)) (hl : ∀ l, last = some l → l ≤ K1.n) : opnS none K1 R = some (last, K1) := by
  rcases R with _ | ⟨r, R⟩
  · simp only [opnS, Option.some.injEq, Prod.mk.injEq] at h
    rw [← h.1]; rfl
  · simp only [opnS, Option.bind_eq_some_iff] at h
    obtain ⟨x, h1, h2⟩ := h
    obtain ⟨z, hz, hb, rfl⟩ := opn1_inv h1
    obtain ⟨h3, h4⟩ := skip_some R z.1 _ last K h2
    have hle := hl _ h3
    simp only [opnS]
    have hb1 : ¬ brk none K1.n z.1 := by
      unfold brk seqB at hb ⊢
      simp at hb ⊢
      omega
    rw [opn1_go hz hb1, if_neg (by omega)]
    exact h4 K1 hle
/-! ### sizes -/
def szP (l : List PP) : Nat := (l.flatMap encP).length
theorem encP_len (p : PP) : (encP p).length = 5 + p.k.length + p.v.length := by unfold encP; simp [leN_len]; omega
theorem encW_len (w : PW) : (encW w).length = 2 + w.k.length + (if w.d then 0 else 4 + w.v.length) := by
  unfold encW
  split <;> simp [leN_len] <;> omega
theorem szP_cons (p : PP) (l : List PP) : szP (p :: l) = 5 + p.k.length + p.v.length + szP l := by unfold szP; rw [List.flatMap_cons, List.length_append, encP_len]
theorem szP_app (l m : List PP) : szP (l ++ m) = szP l + szP m := by unfold szP; rw [List.flatMap_append, List.length_append]
theorem szP_len (l : List PP) : 5 * l.length ≤ szP l := by
  induction l with
  | nil => exact Nat.le_refl _
  | cons p l ih => rw [szP_cons, List.length_cons]; omega
theorem snpB_len (K : KS) : (snpB K).length = 12 + szP K.l := by unfold snpB szP; simp [leN_len]; omega
theorem szP_ins (x : PP) (l : List PP) : szP (ins PP.k x l) = 5 + x.k.length + x.v.length + szP l := by
  obtain ⟨l1, l2, h1, h2⟩ := ins_split PP.k x l
  rw [h2, h1, szP_app, szP_app, szP_cons]; omega
theorem szP_del (l : List PP) (x : List UInt8) : szP (delK l x) ≤ szP l := by
  induction l with
  | nil => exact Nat.le_refl _
  | cons p l ih =>
    unfold delK at ih ⊢
    rw [szP_cons]
    by_cases h : (!(p.k == x)) = true
    · rw [List.filter_cons_of_pos (by simpa using h), szP_cons]; omega
    · rw [List.filter_cons_of_neg (by simpa using h)]; omega
theorem szP_doW (l : List PP) (w : PW) : szP (doW l w) ≤ szP l + (encW w).length := by
  rw [encW_len]
  unfold doW
  have := szP_del l w.k
  rcases hd : w.d with _ | _
  · simp only [Bool.false_eq_true, if_false]
    unfold setK
    rw [szP_ins]
    show 5 + w.k.length + w.v.length + _ ≤ _
    omega
  · simp only [if_true]
    omega
theorem szP_fold : ∀ (W : List PW) (l : List PP), szP (W.foldl doW l) ≤ szP l + (W.flatMap encW).length
  | [], l => by simp
  | w :: W, l => by
    rw [List.foldl_cons, List.flatMap_cons, List.length_append]
    have h1 := szP_fold W (doW l w)
    have h2 := szP_doW l w
    omega
theorem recB_ln (n : Nat) (W : List PW) : (recB n W).length = 10 + (W.flatMap encW).length := by
  unfold recB; simp [leN_len]; omega
/-! ### what is kept can be told -/
theorem KS.Ok.empty : emptyK.Ok := ⟨List.Pairwise.nil, by simp [emptyK]⟩
theorem ok_doW {l : List PP} {w : PW} (h : ∀ p ∈ l, 1 ≤ p.k.length ∧ p.k.length ≤ 255 ∧ p.v.length ≤ 262144) (h1 : badK w = false) (h2 : badV w = false) : ∀ p ∈ doW l w, 1 ≤ p.k.length ∧ p.k.length ≤ 255 ∧ p.v.length ≤ 262144 := fun p hp => by
  unfold doW at hp
  have hk := of_decide_eq_false h1
  rcases hd : w.d with _ | _
  · rw [hd] at hp
    simp only [Bool.false_eq_true, if_false] at hp
    unfold setK at hp
    rcases (ins_mem _ _ _ _).1 hp with rfl | hp
    · refine ⟨by show 1 ≤ w.k.length; omega, by show w.k.length ≤ 255; omega, ?_⟩
      unfold badV at h2
      rw [hd] at h2
      have : decide (262144 < w.v.length) = false := by simpa using h2
      have := of_decide_eq_false this
      show w.v.length ≤ _
      omega
    · exact h p (List.mem_filter.1 hp).1
  · rw [hd] at hp
    simp only [if_true] at hp
    exact h p (List.mem_filter.1 hp).1
theorem ok_fold : ∀ {W : List PW} {l : List PP}, KS.Ok ⟨l, 0⟩ → W.any badK = false → W.any badV = false → KS.Ok ⟨W.foldl doW l, 0⟩
  | [], l, h, _, _ => h
  | w :: W, l, h, h1, h2 => by
    simp only [List.any_cons, Bool.or_eq_false_iff] at h1 h2
    rw [List.foldl_cons]
    exact ok_fold (W := W) ⟨doW_ris h.ris, ok_doW h.len h1.1 h2.1⟩ h1.2 h2.2
theorem KS.Ok.doB {K : KS} {W : List PW} (h : K.Ok) (hm : may0 W = 0) : (doB K W).Ok := by
  obtain ⟨_, h2, h3⟩ := may0_ok hm
  obtain ⟨h4, h5⟩ := ok_fold (W := W) (l := K.l) ⟨h.ris, h.len⟩ h2 h3
  exact ⟨h4, h5⟩
/-! ### what the files tell -/
/-- The file of all that was kept. -/
def SnOk (C : Nat) (sn : FB) (K0 : KS) : Prop := (sn = none ∧ K0 = emptyK) ∨ (sn = some (frame (snpB K0), (frame (snpB K0)).length) ∧ K0.Ok ∧ (snpB K0).length ≤ 2097152 ∧ K0.n ≤ C)
/-- The log: whole records; or what a cut left of it. -/
def LgOk (lg : FB) (R : List (List UInt8)) : Prop := (lg = none ∧ R = []) ∨ (lg = some (flat R, (flat R).length) ∧ ∀ r ∈ R, r.length ≤ 2097152)
def LgUp (lg : FB) (R : List (List UInt8)) : Prop := (lg = none ∧ R = []) ∨ ∃ b u, lg = some (b, b.length) ∧ Scans b R u
structure Tells (C : Nat) (sn : FB) (R : List (List UInt8)) (K : KS) : Prop where
  ex : ∃ K0 last, SnOk C sn K0 ∧ opnS none K0 R = some (last, K) ∧ ∀ l, last = some l → l = K.n
  ok : K.Ok
  n : K.n ≤ C
  sz : szP K.l ≤ C
theorem SnOk.mono {C C' : Nat} {sn : FB} {K0 : KS} (h : SnOk C sn K0) (hc : C ≤ C') : SnOk C' sn K0 := by
  rcases h with h | ⟨h1, h2, h3, h4⟩
  · exact .inl h
  · exact .inr ⟨h1, h2, h3, by omega⟩
theorem Tells.mono {C C' : Nat} {sn : FB} {R : List (List UInt8)} {K : KS} (h : Tells C sn R K) (hc : C ≤ C') : Tells C' sn R K := by
  obtain ⟨⟨K0, last, h1, h2⟩, h3, h4, h5⟩ := h
  exact ⟨⟨K0, last, h1.mono hc, h2⟩, h3, by omega, by omega⟩
theorem LgOk.up {lg : FB} {R : List (List UInt8)} (h : LgOk lg R) : LgUp lg R := by
  rcases h with h | ⟨h1, h2⟩
  · exact .inl h
  · exact .inr ⟨_, _, h1, scans_all h2⟩
theorem cutm_full (keep : Int) (b : List UInt8) : cutm keep (some (b, b.length)) = some (b, b.length) := by
  have e : (max keep 0).toNat % (b.length - b.length + 1) = 0 := by rw [Nat.sub_self]; exact Nat.mod_one _
  unfold cutm
  simp only [Option.map_some]
  rw [e, Nat.add_zero, List.take_length]
theorem cutm_sz (keep : Int) (f : FB) : szF (cutm keep f) ≤ szF f := by
  rcases f with _ | y
  · exact Nat.le_refl _
  · show (y.1.take _).length ≤ y.1.length
    rw [List.length_take]; omega
theorem LgUp.cut {lg : FB} {R : List (List UInt8)} (h : LgUp lg R) (keep : Int) : cutm keep lg = lg := by
  rcases h with ⟨rfl, _⟩ | ⟨b, u, rfl, _⟩
  · rfl
  · exact cutm_full keep b
theorem SnOk.cut {C : Nat} {sn : FB} {K0 : KS} (h : SnOk C sn K0) (keep : Int) : cutm keep sn = sn := by
  rcases h with ⟨rfl, _⟩ | ⟨rfl, _⟩
  · rfl
  · exact cutm_full keep _
theorem Tells.cut {C : Nat} {sn : FB} {R : List (List UInt8)} {K : KS} (h : Tells C sn R K) (keep : Int) : cutm keep sn = sn := by
  obtain ⟨⟨K0, last, h1, h2⟩, h3, h4, h5⟩ := h
  exact h1.cut keep
theorem SnOk.sz {C : Nat} {sn : FB} {K0 : KS} (h : SnOk C sn K0) : szF sn ≤ 2097160 := by
  rcases h with ⟨rfl, _⟩ | ⟨rfl, _, h, _⟩
  · exact Nat.zero_le _
  · show (frame _).length ≤ _
    rw [frame_length]; omega
theorem Tells.snz {C : Nat} {sn : FB} {R : List (List UInt8)} {K : KS} (h : Tells C sn R K) : szF sn ≤ 2097160 := by
  obtain ⟨⟨K0, last, h1, h2⟩, h3, h4, h5⟩ := h
  exact h1.sz
/-- One more record. -/
theorem Tells.more {C : Nat} {sn : FB} {R : List (List UInt8)} {K : KS} (h : Tells C sn R K) {W : List PW} (hW : W ≠ []) (hm : may0 W = 0) (hn : C < 4611686018427387904) : Tells (C + (18 + (W.flatMap encW).length)) sn (R ++ [recB (K.n + 1) W]) (doB K W) := by
  obtain ⟨⟨K0, last, h1, h2, h3⟩, h4, h5, h6⟩ := h
  refine ⟨⟨K0, some (K.n + 1), h1.mono (by omega), ?_, fun l e => ?_⟩, h4.doB hm, ?_, ?_⟩
  · rw [opnS_app, h2]
    simp only [Option.bind_some]
    have hb := batD_rec (n := K.n + 1) (by omega) hm hW
    rw [opn1_go hb ?_]
    · show some (some (K.n + 1), if K.n < K.n + 1 then doB K (W.map nrm) else K) = _
      rw [if_pos (Nat.lt_succ_self _), doB_nrm]
    · show ¬ brk last K.n (K.n + 1)
      unfold brk seqB
      rcases last with _ | l
      · simp; omega
      · have := h3 l rfl
        simp; omega
  · injection e with e
    exact e.symm
  · show K.n + 1 ≤ _
    omega
  · have := szP_fold W K.l
    show szP (W.foldl doW K.l) ≤ _
    omega
/-- A snapshot of it all. -/
theorem Tells.snap {C : Nat} {sn : FB} {R : List (List UInt8)} {K : KS} (h : Tells C sn R K) (hb : (snpB K).length ≤ 2097152) :
    Tells C (some (frame (snpB K), (frame (snpB K)).length)) R K ∧ Tells C (some (frame (snpB K), (frame (snpB K)).length)) [] K := by
  obtain ⟨⟨K0, last, h1, h2, h3⟩, h4, h5, h6⟩ := h
  have hs : SnOk C (some (frame (snpB K), (frame (snpB K)).length)) K := .inr ⟨rfl, h4, hb, h5⟩
  exact ⟨⟨⟨K, last, hs, skip h2 fun l e => Nat.le_of_eq (h3 l e), h3⟩, h4, h5, h6⟩, ⟨K, none, hs, rfl, by simp⟩, h4, h5, h6⟩
/-- What a cut leaves of a log with one more record. -/
theorem lg_cut {lg : FB} {R : List (List UInt8)} {r : List UInt8} (h : LgOk lg R) (hr : r.length ≤ 2097152) (keep : Int) : LgUp (cutm keep (addm (frame r) lg)) R ∨ LgUp (cutm keep (addm (frame r) lg)) (R ++ [r]) := by
  obtain ⟨e, hs⟩ : addm (frame r) lg = some (flat R ++ frame r, (flat R).length) ∧ ∀ x ∈ R, x.length ≤ 2097152 := by
    rcases h with ⟨rfl, rfl⟩ | ⟨rfl, h2⟩
    · exact ⟨rfl, by simp⟩
    · exact ⟨rfl, h2⟩
  have hs' : ∀ x ∈ R ++ [r], x.length ≤ 2097152 := fun x hx => by
    rcases List.mem_append.1 hx with hx | hx
    · exact hs x hx
    · rw [List.mem_singleton.1 hx]; exact hr
  have hf : flat R ++ frame r = flat (R ++ [r]) := by rw [flat_append, flat_one]
  rw [e, hf]
  have hle : (flat R).length ≤ (flat (R ++ [r])).length := by rw [← hf]; simp
  have hm := Nat.mod_lt (max keep 0).toNat (show 0 < (flat (R ++ [r])).length - (flat R).length + 1 by omega)
  unfold cutm
  simp only [Option.map_some]
  generalize (max keep 0).toNat % ((flat (R ++ [r])).length - (flat R).length + 1) = q at *
  have e1 : endOf (R ++ [r]) R.length = (flat R).length := by unfold endOf; rw [List.take_left]
  have e2 : endOf (R ++ [r]) (R.length + 1) = (flat (R ++ [r])).length := by
    unfold endOf
    rw [List.take_of_length_le (by simp)]
  have hlen : ((flat (R ++ [r])).take ((flat R).length + q)).length = (flat R).length + q := by rw [List.length_take]; omega
  by_cases hc : (flat R).length + q < (flat (R ++ [r])).length
  · have := scans_cut (R := R ++ [r]) (c := (flat R).length + q) (k := R.length) hs' (by simp) (by rw [e1]; omega) (.inr ⟨by simp, by rw [e2]; exact hc⟩) (by omega)
    rw [List.take_left] at this
    exact .inl (.inr ⟨_, _, by rw [hlen], this⟩)
  · have := scans_cut (R := R ++ [r]) (c := (flat R).length + q) (k := R.length + 1) hs' (by simp) (by rw [e2]; omega) (.inl (by simp)) (by omega)
    rw [List.take_of_length_le (l := R ++ [r]) (by simp)] at this
    exact .inr (.inr ⟨_, _, by rw [hlen], this⟩)
/-! ### the disk's states -/
/-- The power is on, the store's records whole. -/
structure Live (S : DS) (K : KS) (C : Nat) : Prop where
  ex : ∃ lg sn R, Df S lg sn none ∧ LgOk lg R ∧ Tells C sn R K ∧ szF lg ≤ C
/-- The power came back. -/
structure Up (S : DS) (K : KS) (C : Nat) : Prop where
  ex : ∃ lg sn nw R, Df S lg sn nw ∧ LgUp lg R ∧ Tells C sn R K ∧ szF lg ≤ C
/-- The power went: what comes back tells the one or the other. -/
structure Dn (S : DS) (K K2 : KS) (C : Nat) : Prop where
  off : S.off = true
  ex : ∃ lg sn nw, S.l = fl lg sn nw ∧ szF lg ≤ C ∧ ∀ keep, ∃ R, LgUp (cutm keep lg) R ∧ (Tells C (cutm keep sn) R K ∨ Tells C (cutm keep sn) R K2)
theorem Live.up {S : DS} {K : KS} {C : Nat} (h : Live S K C) : Up S K C := by
  obtain ⟨lg, sn, R, h1, h2, h3, h4⟩ := h.ex
  exact ⟨lg, sn, none, R, h1, h2.up, h3, h4⟩
theorem Live.mono {S : DS} {K : KS} {C C' : Nat} (h : Live S K C) (hc : C ≤ C') : Live S K C' := by
  obtain ⟨lg, sn, R, h1, h2, h3, h4⟩ := h.ex
  exact ⟨lg, sn, R, h1, h2, h3.mono hc, by omega⟩
theorem Dn.mono {S : DS} {K K2 : KS} {C C' : Nat} (h : Dn S K K2 C) (hc : C ≤ C') : Dn S K K2 C' := by
  obtain ⟨lg, sn, nw, h1, h2, h3⟩ := h.ex
  refine ⟨h.off, lg, sn, nw, h1, by omega, fun keep => ?_⟩
  obtain ⟨R, h4, h5⟩ := h3 keep
  exact ⟨R, h4, h5.imp (fun h => h.mono hc) (fun h => h.mono hc)⟩
theorem Dn.left {S : DS} {K K2 : KS} {C : Nat} (h : Dn S K K C) : Dn S K K2 C := by
  obtain ⟨lg, sn, nw, h1, h2, h3⟩ := h.ex
  refine ⟨h.off, lg, sn, nw, h1, h2, fun keep => ?_⟩
  obtain ⟨R, h4, h5⟩ := h3 keep
  exact ⟨R, h4, .inl (h5.elim id id)⟩
theorem Dn.right {S : DS} {K K2 : KS} {C : Nat} (h : Dn S K2 K2 C) : Dn S K K2 C := by
  obtain ⟨lg, sn, nw, h1, h2, h3⟩ := h.ex
  refine ⟨h.off, lg, sn, nw, h1, h2, fun keep => ?_⟩
  obtain ⟨R, h4, h5⟩ := h3 keep
  exact ⟨R, h4, .inr (h5.elim id id)⟩
/-- Cut off where nothing is unsynced but the new file. -/
theorem dn_of {S : DS} {K : KS} {C : Nat} {lg sn nw : FB} {R : List (List UInt8)} (ho : S.off = true) (hl : S.l = fl lg sn nw) (h1 : LgUp lg R) (h2 : Tells C sn R K) (h3 : szF lg ≤ C) : Dn S K K C :=
  ⟨ho, lg, sn, nw, hl, h3, fun keep => ⟨R, by rw [h1.cut]; exact h1, .inl (by rw [h2.cut]; exact h2)⟩⟩
/-- The power comes back. -/
theorem Dn.pow {S : DS} {K K2 : KS} {C : Nat} (h : Dn S K K2 C) (keep : Int) : (Dk.pow S keep).bud = -1 ∧ (Dk.pow S keep).room = S.room ∧ (Up (Dk.pow S keep) K C ∨ Up (Dk.pow S keep) K2 C) := by
  obtain ⟨lg, sn, nw, h1, h2, h3⟩ := h.ex
  obtain ⟨R, h4, h5⟩ := h3 keep
  have e : Dk.pow S keep = { S with bud := -1, off := false, l := S.l.map (cutf keep) } := if_pos h.off
  have hD : Df (Dk.pow S keep) (cutm keep lg) (cutm keep sn) (cutm keep nw) := by
    rw [e]
    exact ⟨rfl, by show S.l.map (cutf keep) = _; rw [h1, fl_cut]⟩
  have hz : szF (cutm keep lg) ≤ C := Nat.le_trans (cutm_sz keep lg) h2
  refine ⟨by rw [e], by rw [e], ?_⟩
  rcases h5 with h5 | h5
  · exact .inl ⟨_, _, _, R, hD, h4, h5, hz⟩
  · exact .inr ⟨_, _, _, R, hD, h4, h5, hz⟩
theorem Live.pow {S : DS} {K : KS} {C : Nat} (h : Live S K C) (keep : Int) : (Dk.pow S keep).bud = -1 ∧ (Dk.pow S keep).room = S.room ∧ Live (Dk.pow S keep) K C := by
  obtain ⟨lg, sn, R, h1, h2, h3, h4⟩ := h.ex
  have e : Dk.pow S keep = { S with bud := -1 } := if_neg (by rw [h1.off]; simp)
  rw [e]
  exact ⟨rfl, rfl, lg, sn, R, ⟨h1.off, h1.l⟩, h2, h3, h4⟩
theorem Live.cut {S : DS} {K : KS} {C : Nat} (h : Live S K C) (n : Int) : Live (cutd S n).2 K C ∧ (cutd S n).2.room = S.room := by
  obtain ⟨lg, sn, R, h1, h2, h3, h4⟩ := h.ex
  unfold cutd
  split
  · exact ⟨h, rfl⟩
  · rw [if_neg (by rw [h1.off]; simp)]
    exact ⟨⟨lg, sn, R, ⟨h1.off, h1.l⟩, h2, h3, h4⟩, rfl⟩
theorem Up.cut {S : DS} {K : KS} {C : Nat} (h : Up S K C) (n : Int) : Up (cutd S n).2 K C ∧ (cutd S n).2.room = S.room := by
  obtain ⟨lg, sn, nw, R, h1, h2, h3, h4⟩ := h.ex
  unfold cutd
  split
  · exact ⟨h, rfl⟩
  · rw [if_neg (by rw [h1.off]; simp)]
    exact ⟨⟨lg, sn, nw, R, ⟨h1.off, h1.l⟩, h2, h3, h4⟩, rfl⟩
theorem Live.used {S : DS} {K : KS} {C : Nat} (h : Live S K C) : Dk.used S.l ≤ C + 2097160 := by
  obtain ⟨lg, sn, R, h1, h2, h3, h4⟩ := h.ex
  rw [h1.l, fl_used]
  have := h3.snz
  have e : szF none = 0 := rfl
  omega
theorem live_new (room : Int) : Live ⟨room, [], false, -1, 0⟩ emptyK 0 :=
  ⟨none, none, [], ⟨rfl, rfl⟩, .inl ⟨rfl, rfl⟩, ⟨⟨emptyK, none, .inl ⟨rfl, rfl⟩, rfl, by simp⟩, KS.Ok.empty, Nat.le_refl _, Nat.le_refl _⟩, Nat.le_refl _⟩
variable {bump : Int → Int}
/-- A batch. -/
theorem Live.apply {S : DS} {K : KS} {C : Nat} (h : Live S K C) {W : List PW} (hW : W ≠ []) (hm : may0 W = 0) (hb : (recB (K.n + 1) W).length ≤ 2097152) (hC : C < 4611686018427387904) :
    (((frame (recB (K.n + 1) W)).length : Int) > S.room - Dk.used S.l ∧ applyP bump S K W = (12, S, K)) ∨
    (¬ ((frame (recB (K.n + 1) W)).length : Int) > S.room - Dk.used S.l ∧ (applyP bump S K W).2.1.room = S.room ∧
      (((applyP bump S K W).1 = 0 ∧ (applyP bump S K W).2.2 = doB K W ∧ Live (applyP bump S K W).2.1 (doB K W) (C + (18 + (W.flatMap encW).length)) ∧ (S.bud = -1 → (applyP bump S K W).2.1.bud = -1)) ∨
       ((applyP bump S K W).1 = 11 ∧ S.bud ≠ -1 ∧ (applyP bump S K W).2.2 = K ∧ Dn (applyP bump S K W).2.1 K (doB K W) (C + (18 + (W.flatMap encW).length))))) := by
  obtain ⟨lg, sn, R, h1, h2, h3, h4⟩ := h.ex
  unfold applyP
  rw [if_neg hW, if_neg (by rw [hm]; simp)]
  by_cases hr : ((frame (recB (K.n + 1) W)).length : Int) > S.room - Dk.used S.l
  · rw [lapp_full h1 hb hr]
    exact .inl ⟨hr, rfl⟩
  · refine .inr ⟨hr, ?_⟩
    obtain ⟨h5, h6⟩ := lapp_fl (bump := bump) h1 hb hr
    have hT := h3.more hW hm hC
    have hz : (frame (recB (K.n + 1) W)).length = 18 + (W.flatMap encW).length := by rw [frame_length, recB_ln]; omega
    have hsz : szF (addm (frame (recB (K.n + 1) W)) lg) ≤ C + (18 + (W.flatMap encW).length) := by
      rcases lg with _ | y
      · show (frame _).length ≤ _; omega
      · show (y.1 ++ frame _).length ≤ _
        have : y.1.length ≤ C := h4
        rw [List.length_append]; omega
    rcases h6 with ⟨h7, h8, h9⟩ | ⟨h7, h8, h9, h10⟩
    · rw [if_neg (by rw [h7]; simp)]
      refine ⟨h5, .inl ⟨rfl, rfl, ⟨_, sn, R ++ [recB (K.n + 1) W], h8, ?_, hT, ?_⟩, h9⟩⟩
      · refine .inr ?_
        rcases h2 with ⟨rfl, rfl⟩ | ⟨rfl, h2⟩
        · refine ⟨?_, ?_⟩
          · rw [List.nil_append, flat_one]; rfl
          · intro r hr; rw [List.nil_append] at hr; rw [List.mem_singleton.1 hr]; exact hb
        · refine ⟨?_, ?_⟩
          · rw [flat_append, flat_one]; rfl
          · intro r hr
            rcases List.mem_append.1 hr with hr | hr
            · exact h2 r hr
            · rw [List.mem_singleton.1 hr]; exact hb
      · rcases lg with _ | y <;> exact hsz
    · rw [if_pos (by rw [h7]; simp)]
      refine ⟨h5, .inr ⟨h7, h8, rfl, h9, _, sn, none, h10, hsz, fun keep => ?_⟩⟩
      rw [h3.cut]
      rcases lg_cut h2 hb keep with h11 | h11
      · exact ⟨R, h11, .inl (h3.mono (by omega))⟩
      · exact ⟨_, h11, .inr hT⟩
/-- A compaction. -/
theorem Live.compact {S : DS} {K : KS} {C : Nat} (h : Live S K C) :
    (2097152 < (snpB K).length ∧ compactP bump S K = (2, S)) ∨
    ((snpB K).length ≤ 2097152 ∧ ((frame (snpB K)).length : Int) > S.room - Dk.used S.l ∧ compactP bump S K = (12, S)) ∨
    ((snpB K).length ≤ 2097152 ∧ ¬ ((frame (snpB K)).length : Int) > S.room - Dk.used S.l ∧ (compactP bump S K).2.room = S.room ∧
      (((compactP bump S K).1 = 0 ∧ Live (compactP bump S K).2 K C ∧ (S.bud = -1 → (compactP bump S K).2.bud = -1) ∧ fnd (compactP bump S K).2 snL = 0 ∧ cont (compactP bump S K).2 snL = frame (snpB K)) ∨
       ((compactP bump S K).1 = 11 ∧ S.bud ≠ -1 ∧ Dn (compactP bump S K).2 K K C))) := by
  obtain ⟨lg, sn, R, h1, h2, h3, h4⟩ := h.ex
  by_cases hb : 2097152 < (snpB K).length
  · exact .inl ⟨hb, compact_long hb⟩
  · have hb : (snpB K).length ≤ 2097152 := by omega
    refine .inr ?_
    by_cases hr : ((frame (snpB K)).length : Int) > S.room - Dk.used S.l
    · exact .inl ⟨hb, hr, compact_full h1 hb hr⟩
    · obtain ⟨h5, h6⟩ := compact_fl (bump := bump) h1 hb hr
      obtain ⟨t1, t2⟩ := h3.snap hb
      refine .inr ⟨hb, hr, h5, ?_⟩
      rcases h6 with ⟨h7, h8, h9⟩ | ⟨h7, h8, h9, h10⟩
      · refine .inl ⟨h7, ⟨_, _, [], h8, ?_, t2, ?_⟩, h9, by rw [h8.fnd_sn]; rfl, by rw [h8.cont_sn]; rfl⟩
        · rcases lg with _ | y
          · exact .inl ⟨rfl, rfl⟩
          · exact .inr ⟨rfl, by simp⟩
        · rcases lg with _ | y
          · exact Nat.zero_le _
          · show (y.1.take 0).length ≤ _; simp
      · refine .inr ⟨h7, h8, ?_⟩
        rcases h10 with ⟨nw, h10⟩ | h10
        · exact dn_of h9 h10 h2.up h3 h4
        · exact dn_of h9 h10 h2.up t1 h4
/-- What an opening finds. -/
theorem snOk_read {C : Nat} {sn : FB} {K0 : KS} (h : SnOk C sn K0) (hC : C ≤ 4611686018427387904) : (sn = none ∧ K0 = emptyK) ∨ (sn.isSome = true ∧ snpF (ctF sn) = some K0 ∧ (ctF sn).length ≤ 2097160) := by
  rcases h with h | ⟨rfl, h1, h2, h3⟩
  · exact .inl h
  · have h4 : Scans (frame (snpB K0)) [snpB K0] (frame (snpB K0)).length := by
      have := scans_all (M := [snpB K0]) (by simpa using h2)
      rwa [flat_one] at this
    have h5 := szP_len K0.l
    have h6 := snpB_len K0
    refine .inr ⟨rfl, ?_, ?_⟩
    · show snpF (frame (snpB K0)) = _
      rw [snpF_one h4 rfl]
      exact snpD_snp h1 (by omega) (by omega)
    · show (frame _).length ≤ _
      rw [frame_length]; omega
end Go.Cv.Kv
end
section
/-
  A store is opened on a disk whose power came back.
-/
set_option linter.unusedSimpArgs false
set_option linter.unusedVariables false
namespace Go.Cv.Kv
open Go Go.Cv.Dk Go.Cv.Wal
variable {bump : Int → Int}
/-- What an opening makes of the log. -/
theorem lg_open {S : DS} {lg sn : FB} {R : List (List UInt8)} {K : KS} {C : Nat} (h1 : Df S lg sn none) (h2 : LgUp lg R) (h3 : Tells C sn R K) (h4 : szF lg ≤ C) :
    (fnd S logL = 9 ∧ R = [] ∧ Live S K C) ∨
    (fnd S logL = 0 ∧ R = scR (cont S logL) ∧ (lcut bump S logL (scU (cont S logL))).2.room = S.room ∧
      (((lcut bump S logL (scU (cont S logL))).1 = 0 ∧ Live (lcut bump S logL (scU (cont S logL))).2 K C ∧ (S.bud = -1 → (lcut bump S logL (scU (cont S logL))).2.bud = -1)) ∨
       ((lcut bump S logL (scU (cont S logL))).1 = 11 ∧ S.bud ≠ -1 ∧ Dn (lcut bump S logL (scU (cont S logL))).2 K K C))) := by
  have hf := h1.fnd_log
  rcases h2 with ⟨rfl, rfl⟩ | ⟨b, u, rfl, hs⟩
  · exact .inl ⟨hf, rfl, none, sn, [], h1, .inl ⟨rfl, rfl⟩, h3, h4⟩
  · have hc : cont S logL = b := h1.cont_log
    have hf0 : fnd S logL = 0 := hf
    obtain ⟨e1, e2⟩ := sc_eq hs
    rw [hc, e1, e2]
    refine .inr ⟨hf0, rfl, ?_⟩
    have hbl : b.length ≤ C := h4
    unfold lcut
    rw [hc]
    by_cases hu : u < b.length
    · rw [if_pos hu]
      obtain ⟨h5, h6⟩ := trunc_nx (bump := bump) (n := u) h1.off hf0 (by rw [hc]; omega)
      rw [h1.l, fl_tr_log] at h6
      refine ⟨h6.room, ?_⟩
      by_cases hb : S.bud = 0
      · obtain ⟨h7, h8⟩ := h6.no hb
        exact .inr ⟨h5.trans (cd_no hb), by rw [hb]; decide, dn_of h7 h8 (.inr ⟨b, u, rfl, hs⟩) h3 h4⟩
      · refine .inl ⟨h5.trans (cd_go hb), ⟨_, _, R, h6.go hb, .inr ⟨?_, hs.small⟩, h3, ?_⟩, h6.b1⟩
        · have he : flat R = b.take u := hs.eq
          show some (b.take u, u) = _
          rw [he, List.length_take, Nat.min_eq_left hs.le]
        · show (b.take u).length ≤ C
          rw [List.length_take]; omega
    · rw [if_neg hu]
      have hub : u = b.length := Nat.le_antisymm hs.le (by omega)
      have he : flat R = b := by have := hs.eq; rw [hub, List.take_length] at this; exact this
      refine ⟨rfl, .inl ⟨rfl, ⟨_, sn, R, h1, .inr ⟨by rw [he], hs.small⟩, h3, h4⟩, fun e => e⟩⟩
/-- An opening's road. -/
theorem Up.opens {S : DS} {K : KS} {C : Nat} (h : Up S K C) (hC : C ≤ 134217728) : ∃ K0 R, snpS S = some K0 ∧ (fnd S snL = 0 ∨ fnd S snL = 9) ∧ (cont S snL).length ≤ 134217728 ∧ opnR none K0 R = some K ∧
    (Dk.rem bump S nwL).2.room = S.room ∧
    (((Dk.rem bump S nwL).1 = 11 ∧ S.bud ≠ -1 ∧ Dn (Dk.rem bump S nwL).2 K K C) ∨
     (((Dk.rem bump S nwL).1 = 0 ∨ (Dk.rem bump S nwL).1 = 9) ∧ (cont (Dk.rem bump S nwL).2 logL).length ≤ 134217728 ∧ (S.bud = -1 → (Dk.rem bump S nwL).2.bud = -1) ∧
      ((fnd (Dk.rem bump S nwL).2 logL = 9 ∧ R = [] ∧ Live (Dk.rem bump S nwL).2 K C) ∨
       (fnd (Dk.rem bump S nwL).2 logL = 0 ∧ R = scR (cont (Dk.rem bump S nwL).2 logL) ∧ (lcut bump (Dk.rem bump S nwL).2 logL (scU (cont (Dk.rem bump S nwL).2 logL))).2.room = S.room ∧
        (((lcut bump (Dk.rem bump S nwL).2 logL (scU (cont (Dk.rem bump S nwL).2 logL))).1 = 0 ∧ Live (lcut bump (Dk.rem bump S nwL).2 logL (scU (cont (Dk.rem bump S nwL).2 logL))).2 K C ∧ (S.bud = -1 → (lcut bump (Dk.rem bump S nwL).2 logL (scU (cont (Dk.rem bump S nwL).2 logL))).2.bud = -1)) ∨
         ((lcut bump (Dk.rem bump S nwL).2 logL (scU (cont (Dk.rem bump S nwL).2 logL))).1 = 11 ∧ S.bud ≠ -1 ∧ Dn (lcut bump (Dk.rem bump S nwL).2 logL (scU (cont (Dk.rem bump S nwL).2 logL))).2 K K C)))))) := by
  obtain ⟨lg, sn, nw, R, h1, h2, h3, h4⟩ := h.ex
  obtain ⟨⟨K0, last, hs, ho, hl⟩, _⟩ := id h3
  have hfs := h1.fnd_sn
  have hsn : snpS S = some K0 ∧ (fnd S snL = 0 ∨ fnd S snL = 9) ∧ (cont S snL).length ≤ 134217728 := by
    unfold snpS
    rw [h1.cont_sn]
    rcases snOk_read hs (by omega) with ⟨rfl, rfl⟩ | ⟨e1, e2, e3⟩
    · have hfs9 : fnd S snL = 9 := hfs
      exact ⟨if_pos hfs9, .inr hfs9, Nat.zero_le _⟩
    · rw [e1] at hfs
      have hfs0 : fnd S snL = 0 := hfs
      exact ⟨by rw [if_neg (by omega)]; exact e2, .inl hfs0, by omega⟩
  refine ⟨K0, R, hsn.1, hsn.2.1, hsn.2.2, by rw [opnR_S, ho]; rfl, ?_⟩
  have hfn := h1.fnd_nw
  have key : ∀ S1 : DS, Df S1 lg sn none → S1.room = S.room → (S.bud = -1 → S1.bud = -1) → (cont S1 logL).length ≤ 134217728 ∧ ((fnd S1 logL = 9 ∧ R = [] ∧ Live S1 K C) ∨
       (fnd S1 logL = 0 ∧ R = scR (cont S1 logL) ∧ (lcut bump S1 logL (scU (cont S1 logL))).2.room = S.room ∧
        (((lcut bump S1 logL (scU (cont S1 logL))).1 = 0 ∧ Live (lcut bump S1 logL (scU (cont S1 logL))).2 K C ∧ (S.bud = -1 → (lcut bump S1 logL (scU (cont S1 logL))).2.bud = -1)) ∨
         ((lcut bump S1 logL (scU (cont S1 logL))).1 = 11 ∧ S.bud ≠ -1 ∧ Dn (lcut bump S1 logL (scU (cont S1 logL))).2 K K C)))) := fun S1 hD hr hb => by
    refine ⟨by rw [hD.cont_log, ctF_len]; omega, ?_⟩
    rcases lg_open (bump := bump) hD h2 h3 h4 with h | ⟨g1, g2, g3, g4⟩
    · exact .inl h
    · refine .inr ⟨g1, g2, g3.trans hr, ?_⟩
      rcases g4 with ⟨g5, g6, g7⟩ | ⟨g5, g6, g7⟩
      · exact .inl ⟨g5, g6, fun e => g7 (hb e)⟩
      · exact .inr ⟨g5, fun e => g6 (hb e), g7⟩
  rcases nw with _ | y
  · have e : Dk.rem bump S nwL = (9, S) := by
      unfold Dk.rem
      rw [hfn]
      rfl
    rw [e]
    obtain ⟨k1, k2⟩ := key S h1 rfl (fun e => e)
    exact ⟨rfl, .inr ⟨.inr rfl, k1, fun e => e, k2⟩⟩
  · obtain ⟨h5, h6⟩ := rem_nx (bump := bump) h1.off (show fnd S nwL = 0 from hfn)
    rw [h1.l, fl_del_nw] at h6
    refine ⟨h6.room, ?_⟩
    by_cases hb : S.bud = 0
    · obtain ⟨h7, h8⟩ := h6.no hb
      exact .inl ⟨h5.trans (cd_no hb), by rw [hb]; decide, dn_of h7 h8 h2 h3 h4⟩
    · obtain ⟨k1, k2⟩ := key _ (h6.go hb) h6.room h6.b1
      exact .inr ⟨.inl (h5.trans (cd_go hb)), k1, h6.b1, k2⟩
end Go.Cv.Kv
namespace Go.Proofs.YtjnbbfhoegeppaaGreatDoor
open Go.RowKit Go.Cv Go.Cv.Dk Go.Cv.Wal Go.Cv.Kv
/-- A store has been opened. -/
def Opn (w : World) (B d : Nat) (S : DS) (K : KS) (C : Nat) (bs : List Nat) (e : Ending) (w' : World) : Prop :=
  ∃ S' s bs' cs', Live S' K C ∧ S'.room = S.room ∧ (S.bud = -1 → S'.bud = -1) ∧ e = .returned (.tuple #[.pointer (some ⟨s, 0, none⟩), .nilIface]) ∧ Both w' B d s S' K bs' cs' ∧ Stp bs bs' w w' ∧ ∀ x ∈ cs', w.heap.size ≤ x
theorem opn_of {w w' : World} {B d : Nat} {S S' : DS} {K : KS} {C : Nat} {bs : List Nat} {e : Ending} (h : Opens w B d bs S' (some K) e w') (hl : Live S' K C) (hr : S'.room = S.room) (hb : S.bud = -1 → S'.bud = -1) : Opn w B d S K C bs e w' := by
  rcases h with ⟨K2, s, bs', cs', ho, rfl, h1, h2, h3⟩ | ⟨ho, _⟩
  · injection ho with ho
    subst ho
    exact ⟨S', s, bs', cs', hl, hr, hb, rfl, h1, h2, h3⟩
  · cases ho
theorem kopen_live (B d : Nat) (S : DS) (K : KS) (C : Nat) (bs : List Nat) (w : World) (h : Dsk w B d S bs) (hu : Up S K C) (hC : C ≤ 134217728) (hb : S.bud = -1) :
    Calls Tryz.prog 19 #[.pointer (some ⟨d, 0, none⟩)] w (Opn w B d S K C bs) := by
  obtain ⟨K0, R, h1, h2, h3, h4, h5, h6⟩ := hu.opens (bump := wrap64) hC
  rcases h6 with ⟨_, hn, _⟩ | ⟨h7, h8, hb1, h9⟩
  · exact absurd hb hn
  · rcases h9 with ⟨h10, rfl, h11⟩ | ⟨h10, rfl, h11, h12⟩
    · have := kopen_main B d S _ K0 bs [] w h h1 h2 h3 h7 (.inl ⟨h10, rfl, rfl⟩) h8
      exact this.mono fun e w' x => opn_of (h4 ▸ x) h11 h5 hb1
    · rcases h12 with ⟨h13, h14, h15⟩ | ⟨_, hn, _⟩
      · have := kopen_main B d S _ K0 bs _ w h h1 h2 h3 h7 (.inr ⟨h10, rfl, rfl, h13⟩) h8
        exact this.mono fun e w' x => opn_of (h4 ▸ x) h14 h11 h15
      · exact absurd hb hn
end Go.Proofs.YtjnbbfhoegeppaaGreatDoor
end
