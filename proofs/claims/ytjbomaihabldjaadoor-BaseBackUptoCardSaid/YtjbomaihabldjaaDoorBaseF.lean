/-
  Plain laws of the layer base: bit by bit is three by three; what is told is read again, and what is read is told again.
-/
import Derived.Test.YtjbomaihabldjaaDoorBaseE
set_option linter.unusedSimpArgs false
set_option linter.unusedVariables false
namespace Go.Cv.Base
open Go.RowKit
theorem feed0 (u : Bool) (a : Nat) (h : a < 256) (out : List UInt8) : feedE u a 8 (0, 0, out) = (a % 4, 2, out ++ [L u (a / 4)]) := by
  simp [feedE, stepE]
  refine ⟨by omega, ?_⟩
  congr 1
  omega
theorem feed2 (u : Bool) (v a : Nat) (hv : v < 4) (h : a < 256) (out : List UInt8) : feedE u a 8 (v, 2, out) = (a % 16, 4, out ++ [L u (v * 16 + a / 16)]) := by
  simp [feedE, stepE]
  refine ⟨by omega, ?_⟩
  congr 1
  omega
theorem feed4 (u : Bool) (v a : Nat) (hv : v < 16) (h : a < 256) (out : List UInt8) : feedE u a 8 (v, 4, out) = (0, 0, out ++ [L u (v * 4 + a / 64), L u (a % 64)]) := by
  simp [feedE, stepE]
  constructor
  · congr 1; omega
  · congr 1; omega
theorem fold_enc (u : Bool) : ∀ (l : List UInt8) (out : List UInt8), finE u (foldE u l (0, 0, out)) = out ++ enc u l
  | a :: b :: c :: r, out => by
    have ha := a.toNat_lt
    have hb := b.toNat_lt
    have hc := c.toNat_lt
    simp only [foldE]
    rw [feed0 u _ (by omega), feed2 u _ _ (by omega) (by omega), feed4 u _ _ (by omega) (by omega), fold_enc u r]
    simp [enc]
  | [a, b], out => by
    have ha := a.toNat_lt
    have hb := b.toNat_lt
    simp only [foldE]
    rw [feed0 u _ (by omega), feed2 u _ _ (by omega) (by omega)]
    simp [enc, finE]
  | [a], out => by
    have ha := a.toNat_lt
    simp only [foldE]
    rw [feed0 u _ (by omega)]
    simp [enc, finE]
  | [], out => by simp [foldE, finE, enc]
theorem u8_mod {x y : Int} (h : x % 256 = y % 256) : u8 x = u8 y := n8_inj (by rw [n8_u8, n8_u8, h])
theorem feedD0 (a : Nat) (h : a < 64) (out : List UInt8) : feedD a 6 (0, 0, out) = (a, 6, out) := by
  simp [feedD, stepD]
  omega
theorem feedD6 (v a : Nat) (hv : v < 64) (h : a < 64) (out : List UInt8) : feedD a 6 (v, 6, out) = (a % 16, 4, out ++ [u8 ((v * 4 + a / 16 : Nat) : Int)]) := by
  simp [feedD, stepD]
  refine ⟨by omega, ?_⟩
  congr 1
  omega
theorem feedD4 (v a : Nat) (hv : v < 16) (h : a < 64) (out : List UInt8) : feedD a 6 (v, 4, out) = (a % 4, 2, out ++ [u8 ((v * 16 + a / 4 : Nat) : Int)]) := by
  simp [feedD, stepD]
  refine ⟨by omega, ?_⟩
  congr 1
  omega
theorem feedD2 (v a : Nat) (hv : v < 4) (h : a < 64) (out : List UInt8) : feedD a 6 (v, 2, out) = (0, 0, out ++ [u8 ((v * 64 + a : Nat) : Int)]) := by
  simp [feedD, stepD]
  congr 1
  omega
theorem fold_dec : ∀ (ws : List Nat) (out : List UInt8), (∀ x ∈ ws, x < 64) →
    (∀ d, dec ws = some d → ws.length % 4 ≠ 1 ∧ (foldD ws (0, 0, out)).1 = 0 ∧ (foldD ws (0, 0, out)).2.2 = out ++ d) ∧
    (dec ws = none → ws.length % 4 = 1 ∨ (foldD ws (0, 0, out)).1 ≠ 0)
  | a :: b :: c :: d :: r, out, h => by
    have ha := h a (by simp)
    have hb := h b (by simp)
    have hc := h c (by simp)
    have hd := h d (by simp)
    have e : foldD (a :: b :: c :: d :: r) (0, 0, out) = foldD r (0, 0, out ++ [u8 ((((((a * 64 + b) * 64 + c) * 64 + d : Nat) : Int)) / 65536), u8 ((((((a * 64 + b) * 64 + c) * 64 + d : Nat) : Int)) / 256), u8 (((((a * 64 + b) * 64 + c) * 64 + d : Nat) : Int))]) := by
      simp only [foldD]
      rw [feedD0 a ha, feedD6 a b ha hb, feedD4 _ c (by omega) hc, feedD2 _ d (by omega) hd]
      rw [u8_mod (show (((a * 4 + b / 16 : Nat) : Int)) % 256 = ((((((a * 64 + b) * 64 + c) * 64 + d : Nat) : Int)) / 65536) % 256 from by omega),
        u8_mod (show (((b % 16 * 16 + c / 4 : Nat) : Int)) % 256 = ((((((a * 64 + b) * 64 + c) * 64 + d : Nat) : Int)) / 256) % 256 from by omega),
        u8_mod (show (((c % 4 * 64 + d : Nat) : Int)) % 256 = (((((a * 64 + b) * 64 + c) * 64 + d : Nat) : Int)) % 256 from by omega)]
      simp
    obtain ⟨i1, i2⟩ := fold_dec r (out ++ [u8 ((((((a * 64 + b) * 64 + c) * 64 + d : Nat) : Int)) / 65536), u8 ((((((a * 64 + b) * 64 + c) * 64 + d : Nat) : Int)) / 256), u8 (((((a * 64 + b) * 64 + c) * 64 + d : Nat) : Int))]) (fun x hx => h x (by simp [hx]))
    rw [e]
    simp only [dec, List.length_cons]
    constructor
    · intro t ht
      obtain ⟨t0, h0, rfl⟩ := Option.map_eq_some_iff.1 ht
      obtain ⟨j1, j2, j3⟩ := i1 t0 h0
      exact ⟨by omega, j2, by rw [j3]; simp⟩
    · intro ht
      rcases i2 (by simpa using ht) with j | j
      · exact .inl (by omega)
      · exact .inr j
  | [a, b, c], out, h => by
    have ha := h a (by simp)
    have hb := h b (by simp)
    have hc := h c (by simp)
    have e : foldD [a, b, c] (0, 0, out) = (c % 4, 2, out ++ [u8 (((((a * 64 + b) * 64 + c : Nat) : Int)) / 1024), u8 (((((a * 64 + b) * 64 + c) % 1024 * 4 : Nat) : Int) / 16)]) := by
      simp only [foldD]
      rw [feedD0 a ha, feedD6 a b ha hb, feedD4 _ c (by omega) hc]
      rw [u8_mod (show (((a * 4 + b / 16 : Nat) : Int)) % 256 = (((((a * 64 + b) * 64 + c : Nat) : Int)) / 1024) % 256 from by omega),
        u8_mod (show (((b % 16 * 16 + c / 4 : Nat) : Int)) % 256 = (((((a * 64 + b) * 64 + c) % 1024 * 4 : Nat) : Int) / 16) % 256 from by omega)]
      simp
    rw [e]
    simp only [dec]
    split
    · rename_i h0
      refine ⟨fun t ht => ?_, fun ht => by cases ht⟩
      injection ht with ht
      exact ⟨by simp, h0, by rw [← ht]⟩
    · rename_i h0
      exact ⟨fun t ht => (by cases ht), fun _ => .inr h0⟩
  | [a, b], out, h => by
    have ha := h a (by simp)
    have hb := h b (by simp)
    have e : foldD [a, b] (0, 0, out) = (b % 16, 4, out ++ [u8 (((a * 64 + b : Nat) : Int) / 16)]) := by
      simp only [foldD]
      rw [feedD0 a ha, feedD6 a b ha hb]
      rw [u8_mod (show (((a * 4 + b / 16 : Nat) : Int)) % 256 = (((a * 64 + b : Nat) : Int) / 16) % 256 from by omega)]
    rw [e]
    simp only [dec]
    split
    · rename_i h0
      refine ⟨fun t ht => ?_, fun ht => by cases ht⟩
      injection ht with ht
      exact ⟨by simp, h0, by rw [← ht]⟩
    · rename_i h0
      exact ⟨fun t ht => (by cases ht), fun _ => .inr h0⟩
  | [a], out, h => ⟨fun t ht => by simp [dec] at ht, fun _ => .inl rfl⟩
  | [], out, h => ⟨fun t ht => by
      simp only [dec] at ht
      injection ht with ht
      subst ht
      simp [foldD], fun ht => by simp [dec] at ht⟩
theorem u8_nat (z : Int) : ((u8 z).toNat : Int) = z % 256 := n8_u8 z
theorem back_u8 (a : UInt8) (z : Int) (h : z % 256 = (a.toNat : Int)) : u8 z = a := n8_inj (by rw [n8_u8, h]; rfl)
/-- What was told is read again. -/
theorem dec_enc (u : Bool) : ∀ l : List UInt8, dec ((enc u l).map (W u)) = some l
  | a :: b :: c :: r => by
    have ha := a.toNat_lt
    have hb := b.toNat_lt
    have hc := c.toNat_lt
    simp only [enc, List.map_cons, dec]
    rw [W_L u _ (by omega), W_L u _ (by omega), W_L u _ (by omega), W_L u _ (by omega), dec_enc u r]
    simp only [Option.map_some, Option.some.injEq, List.cons.injEq, and_true]
    refine ⟨back_u8 a _ (by omega), back_u8 b _ (by omega), back_u8 c _ (by omega)⟩
  | [a, b] => by
    have ha := a.toNat_lt
    have hb := b.toNat_lt
    simp only [enc, List.map_cons, List.map_nil, dec]
    rw [W_L u _ (by omega), W_L u _ (by omega), W_L u _ (by omega), if_pos (by omega)]
    simp only [Option.some.injEq, List.cons.injEq, and_true]
    refine ⟨back_u8 a _ (by omega), back_u8 b _ (by omega)⟩
  | [a] => by
    have ha := a.toNat_lt
    simp only [enc, List.map_cons, List.map_nil, dec]
    rw [W_L u _ (by omega), W_L u _ (by omega), if_pos (by omega)]
    simp only [Option.some.injEq, List.cons.injEq, and_true]
    exact back_u8 a _ (by omega)
  | [] => rfl
theorem L_W (u : Bool) (c : UInt8) (h : 0 ≤ wI u c) : L u (W u c) = c ∧ W u c < 64 := by
  unfold W
  rcases wI_two u c with h1 | ⟨h1, h2, h3⟩
  · omega
  · exact ⟨h3, by omega⟩
theorem L_eq (u : Bool) (c : UInt8) (k : Nat) (h : 0 ≤ wI u c) (hk : k = W u c) : L u k = c := by rw [hk]; exact (L_W u c h).1
/-- What was read is told again. -/
theorem enc_dec (u : Bool) : ∀ (ls : List UInt8) (d : List UInt8), (∀ c ∈ ls, 0 ≤ wI u c) → dec (ls.map (W u)) = some d → enc u d = ls
  | p :: q :: r :: s :: ls, d, h, hd => by
    have hp := h p (by simp)
    have hq := h q (by simp)
    have hr := h r (by simp)
    have hs := h s (by simp)
    have wp := (L_W u p hp).2
    have wq := (L_W u q hq).2
    have wr := (L_W u r hr).2
    have ws := (L_W u s hs).2
    simp only [List.map_cons, dec] at hd
    obtain ⟨t, ht, rfl⟩ := Option.map_eq_some_iff.1 hd
    have ih := enc_dec u ls t (fun c hc => h c (by simp [hc])) ht
    have e1 := u8_nat ((((((W u p * 64 + W u q) * 64 + W u r) * 64 + W u s : Nat) : Int)) / 65536)
    have e2 := u8_nat ((((((W u p * 64 + W u q) * 64 + W u r) * 64 + W u s : Nat) : Int)) / 256)
    have e3 := u8_nat ((((((W u p * 64 + W u q) * 64 + W u r) * 64 + W u s : Nat) : Int)))
    simp only [enc, ih, List.cons.injEq, and_true]
    refine ⟨L_eq u p _ hp (by omega), L_eq u q _ hq (by omega), L_eq u r _ hr (by omega), L_eq u s _ hs (by omega)⟩
  | [p, q, r], d, h, hd => by
    have hp := h p (by simp)
    have hq := h q (by simp)
    have hr := h r (by simp)
    have wp := (L_W u p hp).2
    have wq := (L_W u q hq).2
    have wr := (L_W u r hr).2
    simp only [List.map_cons, List.map_nil, dec] at hd
    split at hd
    · rename_i h0
      injection hd with hd
      subst hd
      have e1 := u8_nat (((((W u p * 64 + W u q) * 64 + W u r : Nat) : Int)) / 1024)
      have e2 := u8_nat (((((W u p * 64 + W u q) * 64 + W u r) % 1024 * 4 : Nat) : Int) / 16)
      simp only [enc, List.cons.injEq, and_true]
      refine ⟨L_eq u p _ hp (by omega), L_eq u q _ hq (by omega), L_eq u r _ hr (by omega)⟩
    · cases hd
  | [p, q], d, h, hd => by
    have hp := h p (by simp)
    have hq := h q (by simp)
    have wp := (L_W u p hp).2
    have wq := (L_W u q hq).2
    simp only [List.map_cons, List.map_nil, dec] at hd
    split at hd
    · rename_i h0
      injection hd with hd
      subst hd
      have e1 := u8_nat (((W u p * 64 + W u q : Nat) : Int) / 16)
      simp only [enc, List.cons.injEq, and_true]
      refine ⟨L_eq u p _ hp (by omega), L_eq u q _ hq (by omega)⟩
    · cases hd
  | [p], d, h, hd => by simp [dec] at hd
  | [], d, h, hd => by
    simp only [List.map_nil, dec] at hd
    injection hd with hd
    subst hd
    rfl
theorem enc_length (u : Bool) : ∀ l : List UInt8, (enc u l).length = l.length / 3 * 4 + (l.length % 3 * 4 + 2) / 3
  | a :: b :: c :: r => by
    simp only [enc, List.length_cons]
    rw [enc_length u r]
    omega
  | [a, b] => by simp [enc]
  | [a] => by simp [enc]
  | [] => by simp [enc]
theorem enc_letters (u : Bool) : ∀ l : List UInt8, ∀ c ∈ enc u l, 0 ≤ wI u c
  | x :: y :: z :: r, c, h => by
    have hx := x.toNat_lt
    have hy := y.toNat_lt
    have hz := z.toNat_lt
    simp only [enc, List.mem_cons] at h
    rcases h with rfl | rfl | rfl | rfl | h
    · rw [wI_L u _ (by omega)]; omega
    · rw [wI_L u _ (by omega)]; omega
    · rw [wI_L u _ (by omega)]; omega
    · rw [wI_L u _ (by omega)]; omega
    · exact enc_letters u r c h
  | [x, y], c, h => by
    have hx := x.toNat_lt
    have hy := y.toNat_lt
    simp only [enc, List.mem_cons, List.not_mem_nil, or_false] at h
    rcases h with rfl | rfl | rfl
    · rw [wI_L u _ (by omega)]; omega
    · rw [wI_L u _ (by omega)]; omega
    · rw [wI_L u _ (by omega)]; omega
  | [x], c, h => by
    have hx := x.toNat_lt
    simp only [enc, List.mem_cons, List.not_mem_nil, or_false] at h
    rcases h with rfl | rfl
    · rw [wI_L u _ (by omega)]; omega
    · rw [wI_L u _ (by omega)]; omega
  | [], c, h => by simp [enc] at h
end Go.Cv.Base
