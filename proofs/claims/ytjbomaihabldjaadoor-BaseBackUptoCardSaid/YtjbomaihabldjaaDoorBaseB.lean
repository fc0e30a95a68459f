/-
  Walks of the layer base: bytes told in letters.
-/
import Derived.Test.YtjbomaihabldjaaDoorBaseA
set_option linter.unusedSimpArgs false
set_option linter.unusedVariables false
namespace Go.Proofs.YtjbomaihabldjaaDoor
open Go.RowKit Go.Cv Go.Cv.Base Go.Cv.Dig
theorem own_extF {w w' : World} {base : Nat} {e : TypeId} {s n : Nat} {v : Value} {xs : List Value} (h : w.ownsRowF base e s v n xs) (hx : Ext w w') : w'.ownsRowF base e s v n xs := by
  refine ⟨h.1, ?_⟩
  rcases h.2 with h2 | ⟨g, cap, cur, fz, hv, hg, hgg, r⟩
  · exact .inl h2
  · exact .inr ⟨g, cap, cur, fz, hv, hg, (hx.block g (Array.getElem?_eq_some_iff.1 hgg).1).trans hgg, r⟩
theorem Bld.ext {w w' : World} {B b : Nat} {bs : List Value} (h : Bld w B b bs) (hx : Ext w w') : Bld w' B b bs := by
  have one : ∀ p, Lib.BuilderAtF 40 5 B b p bs w → Lib.BuilderAtF 40 5 B b p bs w' := fun p h => by
    obtain ⟨hB, v, hb, ho, hne⟩ := h
    exact ⟨hB, v, (hx.block b (Array.getElem?_eq_some_iff.1 hb).1).trans hb, own_extF ho hx, hne⟩
  exact h.elim (fun h => .inl (one _ h)) (fun h => .inr (one _ h))

theorem Bld.lt {w : World} {B b : Nat} {bs : List Value} (h : Bld w B b bs) : b < w.heap.size := h.elim (fun h => h.lt) (fun h => h.lt)
theorem rd_four (w : World) (x1 x2 x3 x4 : UInt8) (k : Nat) : Rd (w.alloc (.cells #[.int .u8 (n8 x1), .int .u8 (n8 x2), .int .u8 (n8 x3), .int .u8 (n8 x4)] 43)) (some ⟨w.heap.size, 0, none⟩) ((([x1, x2, x3, x4] : List UInt8).take k).map bv) := by
  rw [List.map_take]
  refine Rd.take (Rd.of_cells fun j u hu => ?_) k
  rw [show (Addr.add ⟨w.heap.size, 0, none⟩ j) = ⟨w.heap.size, j, none⟩ from by unfold Addr.add; split <;> simp_all]
  rw [World.cell?_alloc_at _ _ _ _ rfl]
  simpa [bv] using hu
theorem u8info1 : (Tryd.prog.info? 5).map (·.size) = some 1 := by kernel_rfl
set_option maxRecDepth 10000 in
theorem or_add (x y k : Nat) (hy : y < 2 ^ k) : bits .or .i64 ((x * 2 ^ k : Nat) : Int) (y : Int) = IntKind.i64.wrap ((x * 2 ^ k + y : Nat) : Int) := by
  show IntKind.i64.wrap (((BitVec.ofInt 64 ((x * 2 ^ k : Nat) : Int) ||| BitVec.ofInt 64 (y : Int)).toNat : Nat) : Int) = _
  have e : (BitVec.ofInt 64 ((x * 2 ^ k : Nat) : Int) ||| BitVec.ofInt 64 (y : Int)) = BitVec.ofNat 64 (x * 2 ^ k + y) := by
    rw [BitVec.ofInt_natCast, BitVec.ofInt_natCast, ← BitVec.ofNat_or]
    congr 1
    rw [Nat.mul_comm, ← Nat.two_pow_add_eq_or_of_lt hy, Nat.mul_comm]
  rw [e, BitVec.toNat_ofNat]
  have hw : ∀ z : Nat, IntKind.i64.wrap ((z % 2 ^ 64 : Nat) : Int) = IntKind.i64.wrap (z : Int) := fun z => by
    rw [IntKind.wrap_i64, IntKind.wrap_i64]
    omega
  exact hw _
set_option maxRecDepth 10000 in
theorem and_mod (x k : Nat) (hk : k < 64) (hx : x < 2 ^ 63) : bits .and .i64 (x : Int) (((2 ^ k - 1 : Nat)) : Int) = ((x % 2 ^ k : Nat) : Int) := by
  show IntKind.i64.wrap (((BitVec.ofInt 64 (x : Int) &&& BitVec.ofInt 64 (((2 ^ k - 1 : Nat)) : Int)).toNat : Nat) : Int) = _
  rw [BitVec.ofInt_natCast, BitVec.ofInt_natCast, ← BitVec.ofNat_and, Nat.and_two_pow_sub_one_eq_mod, BitVec.toNat_ofNat]
  have h1 : x % 2 ^ k ≤ x := Nat.mod_le _ _
  rw [Nat.mod_eq_of_lt (by omega)]
  exact IntWalk.i64_in _ (by omega)

set_option maxRecDepth 100000 in
theorem or3_ (a b c : UInt8) : bits .or .i64 (bits .or .i64 (IntKind.i64.wrap (n8 a * 65536)) (IntKind.i64.wrap (n8 b * 256))) (n8 c) = ((a.toNat * 65536 + b.toNat * 256 + c.toNat : Nat) : Int) := by
  have ha := a.toNat_lt
  have hb := b.toNat_lt
  have hc := c.toNat_lt
  have e1 : IntKind.i64.wrap (n8 a * 65536) = ((a.toNat * 2 ^ 16 : Nat) : Int) := by
    show IntKind.i64.wrap ((a.toNat : Int) * 65536) = _
    rw [IntWalk.i64_in _ (by omega)]; omega
  have e2 : IntKind.i64.wrap (n8 b * 256) = ((b.toNat * 256 : Nat) : Int) := by
    show IntKind.i64.wrap ((b.toNat : Int) * 256) = _
    rw [IntWalk.i64_in _ (by omega)]; omega
  have e3 : n8 c = ((c.toNat : Nat) : Int) := rfl
  rw [e1, e2, e3, or_add _ _ 16 (by omega), IntWalk.i64_in _ (by omega)]
  have e4 : ((a.toNat * 2 ^ 16 + b.toNat * 256 : Nat) : Int) = (((a.toNat * 256 + b.toNat) * 2 ^ 8 : Nat) : Int) := by omega
  rw [e4, or_add _ _ 8 (by omega), IntWalk.i64_in _ (by omega)]
  omega
theorem or3 (a b c : UInt8) : bits .or .i64 (bits .or .i64 (wrap64 (n8 a * 65536)) (wrap64 (n8 b * 256))) (n8 c) = ((a.toNat * 65536 + b.toNat * 256 + c.toNat : Nat) : Int) := by
  have e : ∀ z, wrap64 z = IntKind.i64.wrap z := fun z => by first | rfl | (unfold wrap64; rw [IntKind.wrap_i64])
  rw [e, e]
  exact or3_ a b c
/-- The four letters' places. -/
theorem four_of (v : Nat) (h : v < 16777216) : ∃ p1 p2 p3 p4 : Nat, (v : Int) / 262144 = (p1 : Int) ∧ bits .and .i64 ((v : Int) / 4096) 63 = (p2 : Int) ∧ bits .and .i64 ((v : Int) / 64) 63 = (p3 : Int) ∧ bits .and .i64 (v : Int) 63 = (p4 : Int) ∧
    p1 = v / 262144 ∧ p2 = v / 4096 % 64 ∧ p3 = v / 64 % 64 ∧ p4 = v % 64 := by
  refine ⟨v / 262144, v / 4096 % 64, v / 64 % 64, v % 64, by omega, ?_, ?_, ?_, rfl, rfl, rfl, rfl⟩
  · exact and_mod (v / 4096) 6 (by decide) (by omega)
  · exact and_mod (v / 64) 6 (by decide) (by omega)
  · exact and_mod v 6 (by decide) (by omega)
/-- copy into three fresh cells. -/
theorem copy_three (wr : World) (ad : Addr) (m c : Nat) (cs : List Value) (hk : cs.length = Nat.min m 3) (hsrc : ∀ j v, cs[j]? = some v → wr.cell? (ad.add j) = some v) (h1 : ∀ v ∈ cs, v.oneCell' = true) :
    ∃ w2, (Builtin.copy_ #[22, 22] 3 #[.slice (some ⟨wr.heap.size, 0, none⟩) 3 3, .slice (some ad) m c]).run Tryd.prog (wr.alloc (.cells #[.int .u8 0, .int .u8 0, .int .u8 0] 41)) = .ok (.int .i64 cs.length) w2 ∧
      Hid (w2.heap[wr.heap.size]? = some (.cells (cs ++ ([.int .u8 0, .int .u8 0, .int .u8 0] : List Value).drop cs.length).toArray 41 (0, 0))) ∧ Ext wr w2 := by
  have hg : (wr.alloc (.cells #[.int .u8 0, .int .u8 0, .int .u8 0] 41)).heap[wr.heap.size]? = some (.cells #[.int .u8 0, .int .u8 0, .int .u8 0] 41 (0, 0)) := by
    show (wr.heap.push _)[wr.heap.size]? = _
    simp
  have hle : cs.length ≤ 3 := by rw [hk]; exact Nat.min_le_right _ _
  refine ⟨_, run_copy_row (P := Tryd.prog) _ 22 22 3 5 wr.heap.size 0 3 3 ad m c #[.int .u8 0, .int .u8 0, .int .u8 0] 41 cs Tryd.underlying22 u8info1 hg hk (fun j v hj => Ext.cell (ext_alloc wr _) (hsrc j v hj)) (by simpa using hle) h1, Lib.hid ?_, ?_⟩
  · rw [setRow_heap _ _ _ _ _ _ hg]
    simp
  · exact below_setRow (ext_alloc wr _) (Nat.le_refl _) _
set_option maxRecDepth 10000 in
set_option maxHeartbeats 8000000 in
theorem encode_any (u : Bool) (A : Option Addr) (n cap : Nat) (l : List UInt8) (w : World) (hl : l.length = n) (hc : n ≤ cap) (hr : Rd w A (l.map bv)) (bnd : n ≤ 2000000) :
    Calls Tryd.prog 7 #[.slice A n cap, .bool u] w fun e w' => e = .returned (.string ⟨(enc u l).toArray⟩) ∧ Ext w w' := by
  have hel := enc_len u l
  have hlet := letters_any u
  have hasz := alph_size u
  have hat := alph_at u
  generalize alph u = al at *
  go_enter Tryd.func7, Tryd.ntmps7
  go_wp2_with (go_at_call 13; with_reducible refine (hlet _).mono ?_; rintro e w ⟨rfl, rfl⟩)
  clear hlet
  go_loopw [0] (fun t0 wr => ∃ (A' : Option Addr) (n' c' : Nat) (rem done : List UInt8), t0 = .slice A' n' c' ∧ rem.length = n' ∧ n' ≤ c' ∧ Rd w A' (rem.map bv) ∧ Bld wr w.heap.size w.heap.size (done.map bv) ∧ Ext w wr ∧ Hid (done ++ enc u rem = enc u l)) (fun t0 _ => match t0 with | .slice _ k _ => k | _ => 0)
  case atStart => exact ⟨A, n, cap, l, [], rfl, hl, hc, hr, bld_start w, ext_alloc _ _, Lib.hid rfl⟩
  case round =>
    obtain ⟨A', n', c', rem, done, rfl, hrl, hnc, hrd, hB, hE, hd⟩ := hrel
    have hdl : done.length ≤ (enc u l).length := by rw [← hd.out]; simp
    rcases rem with _ | ⟨a, _ | ⟨b, _ | ⟨c, r⟩⟩⟩
    · obtain rfl : 0 = n' := hrl
      have hd2 : Hid (done = enc u l) := Lib.hid (by have := hd.out; simpa [enc] using this)
      have hst := bldstring w.heap.size w.heap.size done wr hB hE.size
      clear hd
      go_wp2_with (go_at_call 15; with_reducible refine hst.mono ?_; rintro e w3 ⟨rfl, hb3⟩)
      go_ret
      rw [hd2.out]
      exact ⟨rfl, Below.trans hE hb3⟩
    · obtain ⟨ad, rfl, ha0⟩ := hrd.at_ (k := 0) (by simp)
      obtain rfl : n' = 1 := by simpa using hrl.symm
      clear hrl
      obtain ⟨w2, hcp, HG2, hx2⟩ := copy_three wr ad 1 c' [bv a] (by simp [Nat.min_def]) (fun j v hj => by
        match j, hj with
        | 0, hj => simp at hj; subst hj; exact Ext.cell hE ha0
        | (j + 1), hj => simp at hj) (fun v hv => by simp at hv; rcases hv with rfl <;> rfl)
      have g0 : w2.cell? ⟨wr.heap.size, 0, none⟩ = some (bv a) := by rw [Lib.cell_of_heap HG2.out]; rfl
      have g1 : w2.cell? ⟨wr.heap.size, 1, none⟩ = some (.int .u8 0) := by rw [Lib.cell_of_heap HG2.out]; rfl
      have g2 : w2.cell? ⟨wr.heap.size, 2, none⟩ = some (.int .u8 0) := by rw [Lib.cell_of_heap HG2.out]; rfl
      replace hcp : (Builtin.copy_ #[22, 22] 3 #[.slice (some ⟨wr.heap.size, 0, none⟩) 3 3, .slice (some ad) 1 c']).run Tryd.prog (wr.alloc (.cells #[.int .u8 0, .int .u8 0, .int .u8 0] 41)) = .ok (.int .i64 1) w2 := hcp
      have hv := or3 a 0 0
      obtain ⟨v, hvv⟩ : ∃ v, v = a.toNat * 65536 + (0 : UInt8).toNat * 256 + (0 : UInt8).toNat := ⟨_, rfl⟩
      rw [← hvv] at hv
      have n80 : n8 0 = 0 := rfl
      rw [n80] at hv
      rw [show (0 : Int) * 256 = 0 from rfl, IntWalk.wrap64_in 0 (by omega)] at hv
      have hv8 : a.toNat * 65536 + (0 : UInt8).toNat * 256 + (0 : UInt8).toNat < 16777216 := by
        have := a.toNat_lt; have : (0 : UInt8).toNat = 0 := rfl; omega
      rw [← hvv] at hv8
      obtain ⟨p1, p2, p3, p4, q1, q2, q3, q4, z1, z2, z3, z4⟩ := four_of v hv8
      have b1 : 0 ≤ (p1 : Int) ∧ (p1 : Int) < 64 := by omega
      have b2 : 0 ≤ (p2 : Int) ∧ (p2 : Int) < 64 := by omega
      have b3 : 0 ≤ (p3 : Int) ∧ (p3 : Int) < 64 := by omega
      have b4 : 0 ≤ (p4 : Int) ∧ (p4 : Int) < 64 := by omega
      have hd3 : Hid ((done ++ [L u p1, L u p2]) ++ enc u [] = enc u l) := Lib.hid (by
        rw [← hd.out]
        have := a.toNat_lt; have : (0 : UInt8).toNat = 0 := rfl
        rw [show p1 = a.toNat / 4 from by omega, show p2 = a.toNat % 4 * 16 from by omega]
        simp [enc])
      clear ha0 hd z1 z2 z3 z4 hv8 hvv
      go_wp2
      go_region
      have hx3 : Ext w (w2.alloc (.cells #[.int .u8 (n8 (L u p1)), .int .u8 (n8 (L u p2)), .int .u8 (n8 (L u p3)), .int .u8 (n8 (L u p4))] 43)).drew := (hE.trans hx2).trans ((ext_alloc _ _).trans (ext_drew _))
      have hB3 := Bld.ext hB (hx2.trans ((ext_alloc w2 (.cells #[.int .u8 (n8 (L u p1)), .int .u8 (n8 (L u p2)), .int .u8 (n8 (L u p3)), .int .u8 (n8 (L u p4))] 43)).trans (ext_drew _)))
      have hr4 : Rd (w2.alloc (.cells #[.int .u8 (n8 (L u p1)), .int .u8 (n8 (L u p2)), .int .u8 (n8 (L u p3)), .int .u8 (n8 (L u p4))] 43)).drew (some ⟨w2.heap.size, 0, none⟩) (([L u p1, L u p2]).map bv) := (rd_four w2 (L u p1) (L u p2) (L u p3) (L u p4) 2).drew
      have hsz2 : w.heap.size < w2.heap.size := by have := hB.lt; have := hx2.size; omega
      have hwr := bldwrite w.heap.size w.heap.size _ ⟨w2.heap.size, 0, none⟩ 2 4 [L u p1, L u p2] _ hB3 rfl hr4 (by show w2.heap.size ≠ _; omega) (by rw [List.length_map]; omega) hx3.size
      rw [← List.map_append] at hwr
      generalize (w2.alloc (.cells #[.int .u8 (n8 (L u p1)), .int .u8 (n8 (L u p2)), .int .u8 (n8 (L u p3)), .int .u8 (n8 (L u p4))] 43)).drew = w3 at *
      generalize w2.heap.size = z2 at *
      clear hB3 hr4
      go_wp2_with (go_at_call 14; with_reducible refine hwr.mono ?_; rintro e w4 ⟨rfl, hB4, hb4⟩)
      exact ⟨⟨_, 0, _, [], done ++ [L u p1, L u p2], rfl, rfl, by omega, Rd.nil_, hB4, Below.trans hx3 hb4, hd3⟩, by simp⟩
    · obtain ⟨ad, rfl, ha0⟩ := hrd.at_ (k := 0) (by simp)
      obtain ⟨_, e1, ha1⟩ := hrd.at_ (k := 1) (by simp)
      injection e1 with e1; subst e1
      obtain rfl : n' = 2 := by simpa using hrl.symm
      clear hrl
      obtain ⟨w2, hcp, HG2, hx2⟩ := copy_three wr ad 2 c' [bv a, bv b] (by simp [Nat.min_def]) (fun j v hj => by
        match j, hj with
        | 0, hj => simp at hj; subst hj; exact Ext.cell hE ha0
        | 1, hj => simp at hj; subst hj; exact Ext.cell hE ha1
        | (j + 2), hj => simp at hj) (fun v hv => by simp at hv; rcases hv with rfl | rfl <;> rfl)
      have g0 : w2.cell? ⟨wr.heap.size, 0, none⟩ = some (bv a) := by rw [Lib.cell_of_heap HG2.out]; rfl
      have g1 : w2.cell? ⟨wr.heap.size, 1, none⟩ = some (bv b) := by rw [Lib.cell_of_heap HG2.out]; rfl
      have g2 : w2.cell? ⟨wr.heap.size, 2, none⟩ = some (.int .u8 0) := by rw [Lib.cell_of_heap HG2.out]; rfl
      replace hcp : (Builtin.copy_ #[22, 22] 3 #[.slice (some ⟨wr.heap.size, 0, none⟩) 3 3, .slice (some ad) 2 c']).run Tryd.prog (wr.alloc (.cells #[.int .u8 0, .int .u8 0, .int .u8 0] 41)) = .ok (.int .i64 2) w2 := hcp
      have hv := or3 a b 0
      obtain ⟨v, hvv⟩ : ∃ v, v = a.toNat * 65536 + b.toNat * 256 + (0 : UInt8).toNat := ⟨_, rfl⟩
      rw [← hvv] at hv
      have n80 : n8 0 = 0 := rfl
      rw [n80] at hv
      skip
      have hv8 : a.toNat * 65536 + b.toNat * 256 + (0 : UInt8).toNat < 16777216 := by
        have := a.toNat_lt; have := b.toNat_lt; have : (0 : UInt8).toNat = 0 := rfl; omega
      rw [← hvv] at hv8
      obtain ⟨p1, p2, p3, p4, q1, q2, q3, q4, z1, z2, z3, z4⟩ := four_of v hv8
      have b1 : 0 ≤ (p1 : Int) ∧ (p1 : Int) < 64 := by omega
      have b2 : 0 ≤ (p2 : Int) ∧ (p2 : Int) < 64 := by omega
      have b3 : 0 ≤ (p3 : Int) ∧ (p3 : Int) < 64 := by omega
      have b4 : 0 ≤ (p4 : Int) ∧ (p4 : Int) < 64 := by omega
      have hd3 : Hid ((done ++ [L u p1, L u p2, L u p3]) ++ enc u [] = enc u l) := Lib.hid (by
        rw [← hd.out]
        have := a.toNat_lt; have := b.toNat_lt; have : (0 : UInt8).toNat = 0 := rfl
        rw [show p1 = a.toNat / 4 from by omega, show p2 = a.toNat % 4 * 16 + b.toNat / 16 from by omega, show p3 = b.toNat % 16 * 4 from by omega]
        simp [enc])
      clear ha0 ha1 hd z1 z2 z3 z4 hv8 hvv
      go_wp2
      go_region
      have hx3 : Ext w (w2.alloc (.cells #[.int .u8 (n8 (L u p1)), .int .u8 (n8 (L u p2)), .int .u8 (n8 (L u p3)), .int .u8 (n8 (L u p4))] 43)).drew := (hE.trans hx2).trans ((ext_alloc _ _).trans (ext_drew _))
      have hB3 := Bld.ext hB (hx2.trans ((ext_alloc w2 (.cells #[.int .u8 (n8 (L u p1)), .int .u8 (n8 (L u p2)), .int .u8 (n8 (L u p3)), .int .u8 (n8 (L u p4))] 43)).trans (ext_drew _)))
      have hr4 : Rd (w2.alloc (.cells #[.int .u8 (n8 (L u p1)), .int .u8 (n8 (L u p2)), .int .u8 (n8 (L u p3)), .int .u8 (n8 (L u p4))] 43)).drew (some ⟨w2.heap.size, 0, none⟩) (([L u p1, L u p2, L u p3]).map bv) := (rd_four w2 (L u p1) (L u p2) (L u p3) (L u p4) 3).drew
      have hsz2 : w.heap.size < w2.heap.size := by have := hB.lt; have := hx2.size; omega
      have hwr := bldwrite w.heap.size w.heap.size _ ⟨w2.heap.size, 0, none⟩ 3 4 [L u p1, L u p2, L u p3] _ hB3 rfl hr4 (by show w2.heap.size ≠ _; omega) (by rw [List.length_map]; omega) hx3.size
      rw [← List.map_append] at hwr
      generalize (w2.alloc (.cells #[.int .u8 (n8 (L u p1)), .int .u8 (n8 (L u p2)), .int .u8 (n8 (L u p3)), .int .u8 (n8 (L u p4))] 43)).drew = w3 at *
      generalize w2.heap.size = z2 at *
      clear hB3 hr4
      go_wp2_with (go_at_call 14; with_reducible refine hwr.mono ?_; rintro e w4 ⟨rfl, hB4, hb4⟩)
      exact ⟨⟨_, 0, _, [], done ++ [L u p1, L u p2, L u p3], rfl, rfl, by omega, Rd.nil_, hB4, Below.trans hx3 hb4, hd3⟩, by simp⟩
    · obtain ⟨ad, rfl, ha0⟩ := hrd.at_ (k := 0) (by simp)
      obtain ⟨_, e1, ha1⟩ := hrd.at_ (k := 1) (by simp)
      injection e1 with e1; subst e1
      obtain ⟨_, e1, ha2⟩ := hrd.at_ (k := 2) (by simp)
      injection e1 with e1; subst e1
      obtain rfl : n' = r.length + 3 := by simpa using hrl.symm
      clear hrl
      obtain ⟨w2, hcp, HG2, hx2⟩ := copy_three wr ad (r.length + 3) c' [bv a, bv b, bv c] (by simp [Nat.min_def]) (fun j v hj => by
        match j, hj with
        | 0, hj => simp at hj; subst hj; exact Ext.cell hE ha0
        | 1, hj => simp at hj; subst hj; exact Ext.cell hE ha1
        | 2, hj => simp at hj; subst hj; exact Ext.cell hE ha2
        | (j + 3), hj => simp at hj) (fun v hv => by simp at hv; rcases hv with rfl | rfl | rfl <;> rfl)
      have g0 : w2.cell? ⟨wr.heap.size, 0, none⟩ = some (bv a) := by rw [Lib.cell_of_heap HG2.out]; rfl
      have g1 : w2.cell? ⟨wr.heap.size, 1, none⟩ = some (bv b) := by rw [Lib.cell_of_heap HG2.out]; rfl
      have g2 : w2.cell? ⟨wr.heap.size, 2, none⟩ = some (bv c) := by rw [Lib.cell_of_heap HG2.out]; rfl
      replace hcp : (Builtin.copy_ #[22, 22] 3 #[.slice (some ⟨wr.heap.size, 0, none⟩) 3 3, .slice (some ad) (r.length + 3) c']).run Tryd.prog (wr.alloc (.cells #[.int .u8 0, .int .u8 0, .int .u8 0] 41)) = .ok (.int .i64 3) w2 := hcp
      have hv := or3 a b c
      obtain ⟨v, hvv⟩ : ∃ v, v = a.toNat * 65536 + b.toNat * 256 + c.toNat := ⟨_, rfl⟩
      rw [← hvv] at hv
      have hv8 : a.toNat * 65536 + b.toNat * 256 + c.toNat < 16777216 := by
        have := a.toNat_lt; have := b.toNat_lt; have := c.toNat_lt; omega
      rw [← hvv] at hv8
      obtain ⟨p1, p2, p3, p4, q1, q2, q3, q4, z1, z2, z3, z4⟩ := four_of v hv8
      have b1 : 0 ≤ (p1 : Int) ∧ (p1 : Int) < 64 := by omega
      have b2 : 0 ≤ (p2 : Int) ∧ (p2 : Int) < 64 := by omega
      have b3 : 0 ≤ (p3 : Int) ∧ (p3 : Int) < 64 := by omega
      have b4 : 0 ≤ (p4 : Int) ∧ (p4 : Int) < 64 := by omega
      have hd3 : Hid ((done ++ [L u p1, L u p2, L u p3, L u p4]) ++ enc u r = enc u l) := Lib.hid (by
        rw [← hd.out]
        have := a.toNat_lt; have := b.toNat_lt; have := c.toNat_lt
        rw [show p1 = a.toNat / 4 from by omega, show p2 = a.toNat % 4 * 16 + b.toNat / 16 from by omega, show p3 = b.toNat % 16 * 4 + c.toNat / 64 from by omega, show p4 = c.toNat % 64 from by omega]
        simp [enc])
      clear ha0 ha1 ha2 hd z1 z2 z3 z4 hv8 hvv
      go_wp2
      go_region
      have hx3 : Ext w (w2.alloc (.cells #[.int .u8 (n8 (L u p1)), .int .u8 (n8 (L u p2)), .int .u8 (n8 (L u p3)), .int .u8 (n8 (L u p4))] 43)).drew := (hE.trans hx2).trans ((ext_alloc _ _).trans (ext_drew _))
      have hB3 := Bld.ext hB (hx2.trans ((ext_alloc w2 (.cells #[.int .u8 (n8 (L u p1)), .int .u8 (n8 (L u p2)), .int .u8 (n8 (L u p3)), .int .u8 (n8 (L u p4))] 43)).trans (ext_drew _)))
      have hr4 : Rd (w2.alloc (.cells #[.int .u8 (n8 (L u p1)), .int .u8 (n8 (L u p2)), .int .u8 (n8 (L u p3)), .int .u8 (n8 (L u p4))] 43)).drew (some ⟨w2.heap.size, 0, none⟩) (([L u p1, L u p2, L u p3, L u p4]).map bv) := (rd_four w2 (L u p1) (L u p2) (L u p3) (L u p4) 4).drew
      have hsz2 : w.heap.size < w2.heap.size := by have := hB.lt; have := hx2.size; omega
      have hwr := bldwrite w.heap.size w.heap.size _ ⟨w2.heap.size, 0, none⟩ 4 4 [L u p1, L u p2, L u p3, L u p4] _ hB3 rfl hr4 (by show w2.heap.size ≠ _; omega) (by rw [List.length_map]; omega) hx3.size
      rw [← List.map_append] at hwr
      generalize (w2.alloc (.cells #[.int .u8 (n8 (L u p1)), .int .u8 (n8 (L u p2)), .int .u8 (n8 (L u p3)), .int .u8 (n8 (L u p4))] 43)).drew = w3 at *
      generalize w2.heap.size = z2 at *
      clear hB3 hr4
      go_wp2_with (go_at_call 14; with_reducible refine hwr.mono ?_; rintro e w4 ⟨rfl, hB4, hb4⟩)
      exact ⟨⟨_, r.length, _, r, done ++ [L u p1, L u p2, L u p3, L u p4], rfl, rfl, by omega, Rd.cutA_ (l := 3) hrd (by simp; omega), hB4, Below.trans hx3 hb4, hd3⟩, by simp⟩
end Go.Proofs.YtjbomaihabldjaaDoor
