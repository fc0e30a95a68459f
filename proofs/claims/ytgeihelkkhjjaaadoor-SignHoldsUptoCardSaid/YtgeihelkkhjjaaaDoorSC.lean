import Derived.Test.YtgeihelkkhjjaaaDoorSB
section
/-
  Numbers modulo the order: MulAdd walked.
-/
set_option linter.unusedSimpArgs false
set_option linter.unusedVariables false
namespace Go.Cv
open Go.RowKit
/-- So many words as cells. -/
def rwn (n : Nat) (a : Nat → UInt64) : List Value := (List.range n).map fun j => wq (a j)
theorem rwn_len (n : Nat) (a : Nat → UInt64) : (rwn n a).length = n := by simp [rwn]
theorem rwn_get (n : Nat) (a : Nat → UInt64) {k : Nat} (h : k < n) : (rwn n a)[k]'(by rw [rwn_len]; exact h) = wq (a k) := by simp [rwn]
theorem rwn_set (n : Nat) (a : Nat → UInt64) {k : Nat} (h : k < n) (v : UInt64) : (rwn n a).set k (wq v) = rwn n (upd a k v) := by
  unfold rwn
  apply List.ext_getElem (by simp)
  intro j h1 h2
  rw [List.getElem_set]
  split
  · rename_i e
    subst e
    simp [upd]
  · rename_i e
    simp [upd, Ne.symm e]
theorem rwn_of (ws : List UInt64) : ws.map wq = rwn ws.length (fun j => ws.getD j 0) := by
  unfold rwn
  apply List.ext_getElem (by simp)
  intro j h1 h2
  have : j < ws.length := by simpa using h1
  simp [List.getD, List.getElem?_eq_getElem this]
theorem wsum_lvf (a : Nat → UInt64) : ∀ n o, wsum ((List.range n).map fun j => a (o + j)) = lvf (fun j => a (o + j)) n
  | 0, o => rfl
  | n + 1, o => by
    rw [List.range_succ_eq_map, List.map_cons, List.map_map]
    have ih := wsum_lvf a n (o + 1)
    have e : ((fun j => a (o + j)) ∘ Nat.succ) = fun j => a (o + 1 + j) := by
      funext j
      show a (o + (j + 1)) = _
      congr 1; omega
    rw [e]
    show (a (o + 0)).toNat + 18446744073709551616 * _ = _
    rw [ih]
    have h2 := lvf_add (fun j => a (o + j)) 1 n
    have e2 : (fun j => (fun j => a (o + j)) (1 + j)) = fun j => a (o + 1 + j) := by
      funext j
      show a _ = a _
      congr 1; omega
    rw [e2, Nat.add_comm 1 n] at h2
    rw [h2]
    show (a (o + 0)).toNat + _ = lvf (fun j => a (o + j)) 1 + _
    have h3 : lvf (fun j => a (o + j)) 1 = (a (o + 0)).toNat := by
      show 0 + 2 ^ (64 * 0) * (a (o + 0)).toNat = _
      simp
    rw [h3]
theorem wsum_list (ws : List UInt64) : wsum ws = lvf (fun j => ws.getD j 0) ws.length := by
  have h := wsum_lvf (fun j => ws.getD j 0) ws.length 0
  simp only [Nat.zero_add] at h
  rw [← h]
  congr 1
  apply List.ext_getElem (by simp)
  intro j h1 h2
  simp [List.getD, List.getElem?_eq_getElem h1]
theorem wsum_rwn (a : Nat → UInt64) (n : Nat) : wsum ((List.range n).map a) = lvf a n := by
  have h := wsum_lvf a n 0
  simpa only [Nat.zero_add] using h
theorem lvf_congr {a b : Nat → UInt64} : ∀ n, (∀ j, j < n → a j = b j) → lvf a n = lvf b n
  | 0, _ => rfl
  | n + 1, h => by
    show lvf a n + 2 ^ (64 * n) * (a n).toNat = lvf b n + 2 ^ (64 * n) * (b n).toNat
    rw [lvf_congr n fun j hj => h j (by omega), h n (by omega)]
theorem lvf_pad (z : Nat → UInt64) (n : Nat) : ∀ m, lvf (fun j => if j < n then z j else 0) (n + m) = lvf z n
  | 0 => lvf_congr n fun j hj => if_pos hj
  | m + 1 => by
    show lvf _ (n + m) + 2 ^ (64 * (n + m)) * ((if n + m < n then z (n + m) else 0 : UInt64)).toNat = _
    rw [lvf_pad z n m, if_neg (by omega)]
    show _ + _ * 0 = _
    omega
theorem lvf_lt (a : Nat → UInt64) : ∀ n, lvf a n < 2 ^ (64 * n)
  | 0 => by simp [lvf]
  | n + 1 => by
    have ih := lvf_lt a n
    have h := (a n).toNat_lt
    show lvf a n + 2 ^ (64 * n) * (a n).toNat < _
    rw [show 64 * (n + 1) = 64 * n + 64 from by omega, Nat.pow_add]
    have h3 : 2 ^ (64 * n) * (a n).toNat ≤ 2 ^ (64 * n) * (2 ^ 64 - 1) := Nat.mul_le_mul_left _ (by omega)
    rw [Nat.mul_sub, Nat.mul_one] at h3
    have : 2 ^ (64 * n) ≤ 2 ^ (64 * n) * 2 ^ 64 := Nat.le_mul_of_pos_right _ (by decide)
    omega
/-- The sum so far. -/
def Sum9 (ws : Nat → UInt64) (k : Nat) (cr : UInt64) (T : Nat) : Prop := lvf ws 9 + 2 ^ (64 * k) * cr.toNat = T
theorem Sum9.step {ws : Nat → UInt64} {k : Nat} {cr lo hi : UInt64} {T p : Nat} (hk : k < 9) (h : Sum9 ws k cr T) (hm : lo.toNat + 18446744073709551616 * hi.toNat = p + (ws k).toNat + cr.toNat) : Sum9 (upd ws k lo) (k + 1) hi (T + 2 ^ (64 * k) * p) := by
  unfold Sum9 at *
  have hu := lvf_upd ws k lo 9 hk
  rw [show 64 * (k + 1) = 64 * k + 64 from by omega, Nat.pow_add]
  generalize 2 ^ (64 * k) = A at *
  have h2 : A * lo.toNat + A * 18446744073709551616 * hi.toNat = A * p + A * (ws k).toNat + A * cr.toNat := by
    rw [Nat.mul_assoc, ← Nat.mul_add, hm, Nat.mul_add, Nat.mul_add]
  rw [show (2 : Nat) ^ 64 = 18446744073709551616 from rfl]
  omega
theorem Sum9.small {ws : Nat → UInt64} {k n : Nat} {cr : UInt64} {T : Nat} (h : Sum9 ws k cr T) (hT : T < 2 ^ (64 * n)) (hc : 0 < cr.toNat) : k < n := by
  unfold Sum9 at h
  rcases Nat.lt_or_ge k n with h1 | h1
  · exact h1
  · have h2 : 2 ^ (64 * n) ≤ 2 ^ (64 * k) := Nat.pow_le_pow_right (by decide) (by omega)
    have h3 : 2 ^ (64 * k) ≤ 2 ^ (64 * k) * cr.toNat := Nat.le_mul_of_pos_right _ hc
    omega
theorem pow3 (m a b c : Nat) (h : m = a + (b + c)) : 2 ^ m = 2 ^ a * (2 ^ b * 2 ^ c) := by rw [h, Nat.pow_add, Nat.pow_add]
theorem ma_bound {z n : Nat} (hn : n = 9) (x y : Nat → UInt64) (i : Nat) (hi : i ≤ 4) (hz : z < 2 ^ 256) : z + lvf x i * lvf y 4 < 2 ^ (64 * n) := by
  have e9 : 64 * n = 256 + (256 + 64) := by omega
  rw [pow3 _ _ _ _ e9]
  clear hn e9
  have h1 := lvf_lt x i
  have h2 := lvf_lt y 4
  have h3 : 2 ^ (64 * i) ≤ 2 ^ 256 := Nat.pow_le_pow_right (by decide) (by omega)
  have h2' : lvf y 4 < 2 ^ 256 := h2
  have hA : 0 < (2 : Nat) ^ 256 := Nat.pow_pos (by decide)
  generalize (2 : Nat) ^ 256 = A at *
  have h4 : lvf x i * lvf y 4 ≤ A * A := Nat.mul_le_mul (by omega) (by omega)
  rw [show (2 : Nat) ^ 64 = 18446744073709551616 from rfl]
  have h5 : A * (A * 18446744073709551616) = A * A * 18446744073709551616 := (Nat.mul_assoc _ _ _).symm
  have h6 : A ≤ A * A := Nat.le_mul_of_pos_right _ hA
  omega
theorem own_row_ {w : World} {B n : Nat} {e : TypeId} {v : Value} {xs : List Value} (h : w.ownsRow B e 1 v n xs) (hn : 0 < n) :
    ∃ g sp, v = .slice (some ⟨g, 0, none⟩) n (n + sp.length) ∧ B ≤ g ∧ n + sp.length ≤ maxLen ∧ Row w g e (xs ++ sp) ∧ xs.length = n := by
  have hl := h.1
  rcases h.2 with ⟨_, h0⟩ | ⟨g, cap, cur, rfl, hg, hh, hnc, hcm, hs, ht⟩
  · omega
  · have e1 : xs ++ cur.toList.drop n = cur.toList := by rw [← ht, Nat.mul_one, List.take_append_drop]
    have e2 : n + (cur.toList.drop n).length = cap := by rw [List.length_drop, Array.length_toList, hs]; omega
    refine ⟨g, cur.toList.drop n, by rw [e2], hg, by omega, ?_, by omega⟩
    unfold Row
    rw [e1]
    simpa using hh
theorem row_own_ {w : World} {B n g : Nat} {e : TypeId} {xs sp : List Value} (h : Row w g e (xs ++ sp)) (hg : B ≤ g) (hl : xs.length = n) (hm : n + sp.length ≤ maxLen) : w.ownsRow B e 1 (.slice (some ⟨g, 0, none⟩) n (n + sp.length)) n xs := by
  refine ⟨by omega, .inr ⟨g, n + sp.length, (xs ++ sp).toArray, rfl, hg, h, by omega, hm, by simp; omega, ?_⟩⟩
  simp [← hl]
/-- A row of nine words with spare room. -/
theorem Row.n {w : World} {b : Nat} {T : TypeId} {n : Nat} {a : Nat → UInt64} {sp : List Value} (h : Row w b T (rwn n a ++ sp)) {k : Nat} (hk : k < n) : w.cell? ⟨b, k, none⟩ = some (.int .u64 (n64 (a k))) := by
  rw [h.cell (by rw [List.length_append, rwn_len]; omega)]
  rw [List.getElem_append_left (by rw [rwn_len]; exact hk), rwn_get n a hk]
  rfl
theorem Row.setn {w : World} {b : Nat} {T : TypeId} {n : Nat} {a : Nat → UInt64} {sp : List Value} (h : Row w b T (rwn n a ++ sp)) {k : Nat} (hk : k < n) (v : UInt64) : Row (w.setCell ⟨b, k, none⟩ (.int .u64 (n64 v))) b T (rwn n (upd a k v) ++ sp) := by
  have := h.set k (.int .u64 (n64 v))
  rw [List.set_append_left _ _ (by rw [rwn_len]; exact hk)] at this
  rw [← rwn_set n a hk v]
  exact this
theorem Row.grown_ {w w' : World} {b : Nat} {T : TypeId} {cs : List Value} {row : Option Nat} (h : Row w b T cs) (hg : w.grownBy w' row) (hne : some b ≠ row) : Row w' b T cs := (hg.block b h.lt hne).trans h
section
variable {P : Program} {w : World} {ops : Array Oper} {rest : List Oper} {o : Oper} {a : Act} {K : Act → World → Prop} {Q : Exit → Act → World → Prop}
/-- 'append(own row, what is read)', the row followed. -/
theorem wpList_appo (hgd : o.guard = none) (s x : Operand) (t e : TypeId) (bytes : Nat)
    (ho : o.op = .call { callee := .builtin .append, args := #[s, x], argTypes := #[t, t] }) (hT : RowT P t e bytes)
    (base : Nat) (v : Value) (n : Nat) (xs : List Value) (hs : a.eval s = v) (hown : w.ownsRow base e 1 v n xs)
    (A : Option Addr) (m c : Nat) (news : List Value) (hx : a.eval x = .slice A m c) (hm : news.length = m) (hr : Rd w A news) (h1 : ∀ u ∈ news, u.oneCell' = true)
    (h63 : n + m ≤ maxLen) (hbytes : (n + m) * bytes ≤ 140737488355328) (hbase : base ≤ w.heap.size)
    (h : ∀ A' c' w', w'.ownsRow base e 1 (.slice A' (n + m) c') (n + m) (xs ++ news) → n + m ≤ c' → c' ≤ maxLen → ((Value.slice A' (n + m) c').ownBlock = v.ownBlock ∨ (Value.slice A' (n + m) c').ownBlock = some w.heap.size) → w.grownBy w' v.ownBlock → wpList P ops Q rest (a.put o.dst (.slice A' (n + m) c')) w') : wpList P ops Q (o :: rest) a w :=
  wpList_plain hgd fun _ hK => by
    obtain ⟨ht, z, i, hi, hz, hsize, hby, hzs⟩ := hT
    refine wp_append_rd w s x t ho base e i z bytes ht hi hz hsize hby hzs v n xs hs hown A m c news hx hm hr h1 h63 hbytes hbase fun v' w' h2 h3 h4 => ?_
    obtain ⟨A', c', rfl, hc, hcm, hr', _⟩ := own_form h2
    exact hK _ _ (h A' c' w' h2 hc hcm h4 h3)
end
end Go.Cv
end
section
/-
  Numbers modulo the order: MulAdd walked.
-/
set_option linter.unusedSimpArgs false
set_option linter.unusedVariables false
namespace Go.Proofs.YtgeihelkkhjjaaaDoor
open Go.RowKit Go.Cv
theorem u64rowS : RowT Tryd.prog 58 60 8 := RowT.of (z := .int .u64 0) Tryd.underlying58 info_u64 rfl
theorem rd_five (w : World) (t : TypeId) : Rd (w.alloc (.cells #[.int .u64 0, .int .u64 0, .int .u64 0, .int .u64 0, .int .u64 0] t)) (some ⟨w.heap.size, 0, none⟩) [.int .u64 0, .int .u64 0, .int .u64 0, .int .u64 0, .int .u64 0] := row_rd (Row.alloc w [.int .u64 0, .int .u64 0, .int .u64 0, .int .u64 0, .int .u64 0] t)
/-- The split of 32 bytes. -/
theorem split32 (b : Nat) (f : Nat → UInt8) (w : World) (hR : RV w b 22 (fun u => u = .agg (bcells f))) :
    Calls Tryd.prog 28 #[.slice (some ⟨b, 0, none⟩) 32 32] w fun e w' => ∃ b' a, e = .returned (.slice (some ⟨b', 0, none⟩) 4 4) ∧ w.heap.size ≤ b' ∧ Row w' b' 60 (rwn 4 a ++ []) ∧ lvf a 4 = V f ∧ Ext w w' := by
  refine (split_any _ 32 32 (blist f) w (blist_len f) (rd_bcells hR) (by decide)).mono ?_
  rintro e w1 ⟨m, b1, ws, rfl, hm, hb1, hrow, hlen, hsum, hx1⟩
  obtain rfl : m = 4 := hm
  rw [rwn_of, hlen] at hrow
  rw [wsum_list, hlen, bsum_blist] at hsum
  exact ⟨b1, _, rfl, hb1, by rw [List.append_nil]; exact hrow, hsum, hx1⟩
set_option maxRecDepth 20000 in
set_option maxHeartbeats 8000000 in
theorem muladd_any (f g h : Nat → UInt8) (w : World) :
    Calls Tryd.prog 17 #[.agg (bcells f), .agg (bcells g), .agg (bcells h)] w fun e w' => e = .returned (.agg (bcells (nb ((V f * V g + V h) % ordN)))) ∧ Ext w w' := by
  go_enter Tryd.func17, Tryd.ntmps17
  go_upto_region 1 with fail
  obtain ⟨W1, hW1⟩ : ∃ W1, W1 = w.alloc (.cells (bcells f) 22) := ⟨_, rfl⟩
  obtain ⟨W2, hW2⟩ : ∃ W2, W2 = W1.alloc (.cells (bcells g) 22) := ⟨_, rfl⟩
  obtain ⟨W3, hW3⟩ : ∃ W3, W3 = W2.alloc (.cells (bcells h) 22) := ⟨_, rfl⟩
  obtain ⟨W0, hW0⟩ : ∃ W0, W0 = W3.alloc (.cells (bcells fun _ => 0) 22) := ⟨_, rfl⟩
  rw [← hW1, ← hW2, ← hW3, ← hW0]
  have s1 : W1.heap.size = w.heap.size + 1 := by rw [hW1]; exact Array.size_push _
  have s2 : W2.heap.size = w.heap.size + 1 + 1 := by rw [hW2, ← s1]; exact Array.size_push _
  have s3 : W3.heap.size = w.heap.size + 1 + 1 + 1 := by rw [hW3, ← s2]; exact Array.size_push _
  have x1 : Ext w W1 := by rw [hW1]; exact ext_alloc _ _
  have x2 : Ext W1 W2 := by rw [hW2]; exact ext_alloc _ _
  have x3 : Ext W2 W3 := by rw [hW3]; exact ext_alloc _ _
  have x4 : Ext W3 W0 := by rw [hW0]; exact ext_alloc _ _
  have Rf : RV W0 w.heap.size 22 (fun u => u = .agg (bcells f)) := by
    refine (RV.ext ?_ x2 |>.ext x3).ext x4; rw [hW1]; exact RV.newB _ _ _
  have Rg : RV W0 (w.heap.size + 1) 22 (fun u => u = .agg (bcells g)) := by
    refine (RV.ext ?_ x3).ext x4; rw [hW2, ← s1]; exact RV.newB _ _ _
  have Rh : RV W0 (w.heap.size + 1 + 1) 22 (fun u => u = .agg (bcells h)) := by
    refine RV.ext ?_ x4; rw [hW3, ← s2]; exact RV.newB _ _ _
  have Rr : RV W0 (w.heap.size + 1 + 1 + 1) 22 (fun u => u = .agg (bcells fun _ => 0)) := by
    rw [hW0, ← s3]; exact RV.newB _ _ _
  have hx0 : Ext w W0 := x1.trans (x2.trans (x3.trans x4))
  obtain ⟨bf, hbf⟩ : ∃ b, b = w.heap.size := ⟨_, rfl⟩
  obtain ⟨bg, hbg⟩ : ∃ b, b = w.heap.size + 1 := ⟨_, rfl⟩
  obtain ⟨bh, hbh⟩ : ∃ b, b = w.heap.size + 1 + 1 := ⟨_, rfl⟩
  obtain ⟨br, hbr⟩ : ∃ b, b = w.heap.size + 1 + 1 + 1 := ⟨_, rfl⟩
  rw [← hbr, ← hbh, ← hbg, ← hbf]
  rw [← hbf] at Rf
  rw [← hbg] at Rg
  rw [← hbh] at Rh
  rw [← hbr] at Rr
  have hbw : w.heap.size ≤ br := by omega
  have n1 : bf ≠ bg := by omega
  have n2 : bf ≠ bh := by omega
  have n3 : bg ≠ bh := by omega
  clear hW0 hW1 hW2 hW3 s1 s2 s3 x1 x2 x3 x4 hbf hbg hbh hbr
  have Rf' : RV W0.drew bf 22 (fun u => u = .agg (bcells f)) := Rf
  have Rg' : RV W0.drew bg 22 (fun u => u = .agg (bcells g)) := Rg
  have Rh' : RV W0.drew bh 22 (fun u => u = .agg (bcells h)) := Rh
  go_region_law (first
    | (go_simp; go_at_call 28; (with_reducible refine (split32 bf f W0.drew Rf').mono ?_); rintro e w1 ⟨bx, x, rfl, hbx, Rx, hvx, hx1⟩)
    | (go_simp; go_at_call 28; (with_reducible refine (split32 bg g w1 (Rg'.ext hx1)).mono ?_); rintro e w2 ⟨by_, y, rfl, hby, Ry, hvy, hx2⟩)
    | (go_simp; go_at_call 28; (with_reducible refine (split32 bh h w2 ((Rh'.ext hx1).ext hx2)).mono ?_); rintro e w3 ⟨bz, z, rfl, hbz, Rz, hvz, hx3⟩))
  all_goals
    simp only [List.getElem_toArray, List.getElem_cons_zero, List.getElem_cons_succ, Act.put, List.setIfInBounds_toArray, List.set_cons_zero, List.set_cons_succ]
    have Rx3 := ((Rx.ext hx2).ext hx3)
    have Ry3 := Ry.ext hx3
    have hbxl := Rx.lt
    have hbyl := Ry.lt
    have hx03 : Ext W0 w3 := (ext_drew _).trans (hx1.trans (hx2.trans hx3))
    have hsd : W0.drew.heap.size = W0.heap.size := rfl
    rw [hsd] at hbx
    have hby0 : W0.heap.size ≤ by_ := Nat.le_trans hx1.size hby
    have hbz0 : W0.heap.size ≤ bz := Nat.le_trans hx1.size (Nat.le_trans hx2.size hbz)
    have nxy : bx ≠ by_ := by omega
    have nxz : bx ≠ bz := by have := hx2.size; omega
    have nyz : by_ ≠ bz := by omega
    have hoz := row_own_ (B := W0.heap.size) (xs := rwn 4 z) (sp := []) Rz hbz0 (rwn_len 4 z) (by decide)
    have hsz3 := hx03.size
    clear Rx Ry hbx hby hbz hsd Rz
    go_upto_region 4 with (at_builtin; refine wpList_appo rfl (.tmp 26) (.tmp 27) 58 60 8 rfl u64rowS W0.heap.size (.slice (some ⟨bz, 0, none⟩) 4 4) 4 (rwn 4 z) rfl (own_ext hoz (ext_alloc _ _)) (some _) 5 5 [.int .u64 0, .int .u64 0, .int .u64 0, .int .u64 0, .int .u64 0] rfl rfl (rd_five w3 _) (by simp [Value.oneCell']) (by decide) (by decide) (by have := (ext_alloc w3 (.cells #[.int .u64 0, .int .u64 0, .int .u64 0, .int .u64 0, .int .u64 0] 60)).size; omega) ?_; intro A4 c4 w4 ho4 hc4 hm4 hob4 hg4)
    have hx4 : Ext W0 w4 := ext_grown (hx03.trans (ext_alloc _ _)) (own_ext hoz (ext_alloc _ _)) (Nat.le_refl _) hg4
    obtain ⟨bw, sp, hv4, hbw4, hmx4, Rw, -⟩ := own_row_ ho4 (by decide)
    injection hv4 with hA4 _ hc4'
    subst hA4
    subst hc4'
    have Rx4 := (Rx3.ext (ext_alloc w3 (.cells #[.int .u64 0, .int .u64 0, .int .u64 0, .int .u64 0, .int .u64 0] 60))).grown_ hg4 (by simpa [Value.ownBlock] using nxz)
    have Ry4 := (Ry3.ext (ext_alloc w3 (.cells #[.int .u64 0, .int .u64 0, .int .u64 0, .int .u64 0, .int .u64 0] 60))).grown_ hg4 (by simpa [Value.ownBlock] using nyz)
    have nxw : bx ≠ bw := by
      rcases hob4 with e | e
      · simp only [Value.ownBlock, Option.some.injEq] at e; omega
      · simp only [Value.ownBlock, Option.some.injEq] at e
        have := Rx3.lt
        have := (ext_alloc w3 (.cells #[.int .u64 0, .int .u64 0, .int .u64 0, .int .u64 0, .int .u64 0] 60)).size
        omega
    have nyw : by_ ≠ bw := by
      rcases hob4 with e | e
      · simp only [Value.ownBlock, Option.some.injEq] at e; omega
      · simp only [Value.ownBlock, Option.some.injEq] at e
        have := Ry3.lt
        have := (ext_alloc w3 (.cells #[.int .u64 0, .int .u64 0, .int .u64 0, .int .u64 0, .int .u64 0] 60)).size
        omega
    obtain ⟨ws, hws⟩ : ∃ ws : Nat → UInt64, ws = fun j => if j < 4 then z j else 0 := ⟨_, rfl⟩
    have hrow : rwn 4 z ++ [.int .u64 0, .int .u64 0, .int .u64 0, .int .u64 0, .int .u64 0] = rwn 9 ws := by rw [hws]; rfl
    have hl9 : lvf ws 9 = V h := by
      rw [← hvz, hws]
      exact lvf_pad z 4 5
    rw [hrow] at Rw
    have hVh : V h < 2 ^ 256 := bsum_lt h 32
    have Rr4 := Rr.ext hx4
    have hxw4 : Ext w w4 := hx0.trans hx4
    have hbwW : w.heap.size ≤ bw := Nat.le_trans hx0.size hbw4
    obtain ⟨Z, hZ⟩ : ∃ Z, Z = V h := ⟨_, rfl⟩
    have nrw : br ≠ bw := by have := Rr.lt; omega
    rw [← hZ] at hl9 hVh
    have HZ := Lib.hid hZ
    have HX := Lib.hid hvx
    have HY := Lib.hid hvy
    clear hws hrow hob4 hg4 hoz Rx3 Ry3 ho4 hZ hvx hvy hvz Rf Rg Rh Rf' Rg' Rh' Rr
    go_loopw [31] (fun v31 wr => ∃ (i : Nat) (ws : Nat → UInt64), i ≤ 4 ∧ v31 = .int .i64 i ∧ Row wr bw 60 (rwn 9 ws ++ sp) ∧ Hid (lvf ws 9 = Z + lvf x i * lvf y 4) ∧ Keep [bw] w4 wr) (fun v31 _ => 4 - (intOf v31).toNat)
    case atStart => exact ⟨0, ws, by decide, rfl, Rw, Lib.hid (by rw [hl9, show lvf x 0 = 0 from rfl, Nat.zero_mul, Nat.add_zero]), Keep.refl _ _⟩
    case round =>
      clear Rw hl9
      clear ws
      obtain ⟨i, ws, hi, rfl, Rw, hl9, hK⟩ := hrel
      have Rx5 := Rx4.keep hK (by simpa using nxw)
      have Ry5 := Ry4.keep hK (by simpa using nyw)
      by_cases hi4 : i < 4
      · have hi4I : (i : Int) < 4 := by omega
        have hi0 : 0 ≤ (i : Int) := by omega
        have cx := Rx5.n hi4
        obtain ⟨T0, hT0⟩ : ∃ T0, T0 = Z + lvf x i * lvf y 4 := ⟨_, rfl⟩
        have hS0 : Hid (Sum9 ws i 0 (T0 + 2 ^ (64 * i) * ((x i).toNat * lvf y 0))) := Lib.hid (by
          unfold Sum9
          rw [hl9.out, hT0]
          rfl)
        have hT1 : T0 + 2 ^ (64 * i) * ((x i).toNat * lvf y 4) = Z + lvf x (i + 1) * lvf y 4 := by
          rw [hT0]
          show _ = Z + (lvf x i + 2 ^ (64 * i) * (x i).toNat) * lvf y 4
          rw [Nat.add_mul, Nat.mul_assoc, Nat.add_assoc]
        have hTb : ∀ n, n = 9 → T0 + 2 ^ (64 * i) * ((x i).toNat * lvf y 4) < 2 ^ (64 * n) := fun n hn => by
          rw [hT1]; exact ma_bound hn x y (i + 1) (by omega) hVh
        have hT1x := Lib.hid hT1
        clear hT1 hT0 hl9
        obtain ⟨W5, hW5⟩ : ∃ W5, W5 = wr := ⟨_, rfl⟩
        subst hW5
        go_upto_region 8 with fail
        go_loopw [38, 13] (fun v38 v13 wr => ∃ (k : Nat) (ws : Nat → UInt64) (cr : UInt64), k ≤ 4 ∧ v38 = .int .i64 k ∧ v13 = .int .u64 (n64 cr) ∧ Row wr bw 60 (rwn 9 ws ++ sp) ∧ Hid (Sum9 ws (i + k) cr (T0 + 2 ^ (64 * i) * ((x i).toNat * lvf y k))) ∧ Keep [bw] W5 wr) (fun v38 _ _ => 4 - (intOf v38).toNat)
        case atStart => exact ⟨0, ws, 0, by decide, rfl, rfl, Rw, hS0, Keep.refl _ _⟩
        case round =>
          clear Rw hS0
          clear ws
          obtain ⟨k, ws, cr, hk, rfl, rfl, Rw, hS, hK5⟩ := hrel
          have Ry6 := Ry5.keep hK5 (by simpa using nyw)
          by_cases hk4 : k < 4
          · have hk4I : (k : Int) < 4 := by omega
            have hk0 : 0 ≤ (k : Int) := by omega
            have cy := Ry6.n hk4
            obtain ⟨q, hq⟩ : ∃ q, q = i + k := ⟨_, rfl⟩
            rw [← hq] at hS
            have hq9 : q < 9 := by omega
            have hqI : (i : Int) + (k : Int) = (q : Int) := by omega
            have hqb : (q : Int) < 9 := by omega
            have hq0 : 0 ≤ (q : Int) := by omega
            have cw := Rw.n hq9
            have fw := Rw.fro q
            have hm := ms_law (x i) (y k) (ws q) cr
            have hS2 := Sum9.step hq9 hS.out (p := (x i).toNat * (y k).toNat) hm
            have hS3 : Hid (Sum9 (upd ws q (msLo (x i) (y k) (ws q) cr)) (i + (k + 1)) (msHi (x i) (y k) (ws q) cr) (T0 + 2 ^ (64 * i) * ((x i).toNat * lvf y (k + 1)))) := Lib.hid (by
              have e1 : i + (k + 1) = q + 1 := by omega
              rw [e1]
              have e2 : T0 + 2 ^ (64 * i) * ((x i).toNat * lvf y (k + 1)) = T0 + 2 ^ (64 * i) * ((x i).toNat * lvf y k) + 2 ^ (64 * q) * ((x i).toNat * (y k).toNat) := by
                show T0 + 2 ^ (64 * i) * ((x i).toNat * (lvf y k + 2 ^ (64 * k) * (y k).toNat)) = _
                rw [hq, show 64 * (i + k) = 64 * i + 64 * k from by omega, Nat.pow_add, Nat.mul_add, Nat.mul_add, Nat.add_assoc, Nat.mul_assoc]
                congr 3
                exact Nat.mul_left_comm _ _ _
              rw [e2]
              exact hS2)
            have R2 := Rw.setn hq9 (msLo (x i) (y k) (ws q) cr)
            have hK2 := hK5.same (Keep.setCell wr ⟨bw, q, none⟩ (.int .u64 (n64 (msLo (x i) (y k) (ws q) cr))))
            have hms : 4 - (k + 1) < 4 - k := by omega
            clear hm hS2 hS Rw hK5 hq Ry6
            go_upto_region 16 with (first | simp only [add64_c0] | (go_at_call 29; with_reducible refine (mul64 _ _ _).mono ?_; rintro e w' ⟨rfl, rfl⟩))
            go_wp2
            first
              | exact ⟨⟨k + 1, _, msHi (x i) (y k) (ws q) cr, hk4, by go_num, rfl, R2, hS3, hK2⟩, by simpa [intOf] using hms⟩
              | (go_roundw
                 case rel => exact ⟨_, _, _, _, _, _, _, _, _, _, _, _, _, _, _, _, _, _, _, _, _, _, _, _, _, _, _, _, _, _, _, _, _, _, _, _, _, _, _, _, _, _, _, _, _, ⟨k + 1, _, msHi (x i) (y k) (ws q) cr, hk4, by go_num, rfl, R2, hS3, hK2⟩, rfl⟩
                 case measure => simpa [intOf] using hms)
          · obtain rfl : k = 4 := by omega
            obtain ⟨T, hT⟩ : ∃ T, T = T0 + 2 ^ (64 * i) * ((x i).toNat * lvf y 4) := ⟨_, rfl⟩
            rw [← hT] at hS hTb hT1x
            have hTx := Lib.hid hTb
            obtain ⟨q4, hq4⟩ : ∃ q4, q4 = i + 4 := ⟨_, rfl⟩
            rw [← hq4] at hS
            have hq4I : (i : Int) + 4 = (q4 : Int) := by omega
            have hq4b : q4 ≤ 8 := by omega
            obtain ⟨W6, hW6⟩ : ∃ W6, W6 = wr := ⟨_, rfl⟩
            subst hW6
            clear hT hTb hq4 Ry6
            go_upto_region 18 with fail
            go_loopw [19, 13] (fun v19 v13 wr => ∃ (k : Nat) (ws : Nat → UInt64) (cr : UInt64), k ≤ 9 ∧ v19 = .int .i64 k ∧ v13 = .int .u64 (n64 cr) ∧ Row wr bw 60 (rwn 9 ws ++ sp) ∧ Hid (Sum9 ws k cr T) ∧ Keep [bw] W6 wr) (fun v19 _ _ => 9 - (intOf v19).toNat)
            case atStart => exact ⟨q4, ws, cr, by omega, rfl, rfl, Rw, hS, Keep.refl _ _⟩
            case round =>
              clear Rw hS
              obtain ⟨k, ws, cr, hk, rfl, rfl, Rw, hS, hK6⟩ := hrel
              by_cases hc : 0 < cr.toNat
              · have hk9 : k < 9 := hS.out.small (hTx.out 9 rfl) hc
                have hcI : 0 < n64 cr := by show (0 : Int) < (cr.toNat : Int); omega
                have hkI : (k : Int) < 9 := by omega
                have hk0 : 0 ≤ (k : Int) := by omega
                have cw := Rw.n hk9
                have fw := Rw.fro k
                have hm := adc_law (ws k) cr false
                have hS2 := Sum9.step hk9 hS.out (lo := adcS (ws k) cr false) (hi := bc (adcC (ws k) cr false)) (p := 0) (by
                  rw [bc_toNat]
                  have : bn false = 0 := rfl
                  omega)
                rw [Nat.mul_zero, Nat.add_zero] at hS2
                have hS3 := Lib.hid hS2
                have R2 := Rw.setn hk9 (adcS (ws k) cr false)
                have hK2 := hK6.same (Keep.setCell wr ⟨bw, k, none⟩ (.int .u64 (n64 (adcS (ws k) cr false))))
                have hms : 9 - (k + 1) < 9 - k := by omega
                clear hm hS2 hS Rw hK6
                go_upto_region 19 with (first | simp only [add64_c0])
                go_wp2
                first
                  | exact ⟨⟨k + 1, _, bc (adcC (ws k) cr false), hk9, by go_num, rfl, R2, hS3, hK2⟩, by simpa [intOf] using hms⟩
                  | exact ⟨⟨_, _, _, _, _, _, _, _, _, _, _, _, _, _, _, _, _, _, ⟨k + 1, _, bc (adcC (ws k) cr false), hk9, by go_num, rfl, R2, hS3, hK2⟩, rfl⟩, by simpa [intOf] using hms⟩
              · have hc0 : cr.toNat = 0 := by omega
                have hcI : ¬ 0 < n64 cr := by show ¬ (0 : Int) < (cr.toNat : Int); omega
                have hfin : Hid (lvf ws 9 = Z + lvf x (i + 1) * lvf y 4) := Lib.hid (by
                  rw [← hT1x.out, ← hS.out, hc0, Nat.mul_zero, Nat.add_zero])
                have hms : 4 - (i + 1) < 4 - i := by omega
                clear hS
                go_wp2
                first
                  | exact ⟨⟨i + 1, ws, hi4, by go_num, Rw, hfin, hK.same (hK5.same hK6)⟩, by simpa [intOf] using hms⟩
                  | exact ⟨⟨_, _, _, _, _, _, _, _, _, _, ⟨i + 1, ws, hi4, by go_num, Rw, hfin, hK.same (hK5.same hK6)⟩, rfl⟩, by simpa [intOf] using hms⟩
                  | exact ⟨⟨_, _, _, _, _, _, _, _, _, _, ⟨i + 1, ws, hi4, by go_num, Rw, hfin, hK.same (hK5.same hK6)⟩, rfl, rfl, rfl, rfl, rfl, rfl, rfl, rfl, rfl, rfl⟩, by simpa [intOf] using hms⟩
                  | exact ⟨⟨_, _, _, _, _, _, _, _, _, _, ⟨i + 1, hi4, rfl, ws, Rw, hfin, hK.same (hK5.same hK6)⟩, rfl, rfl, rfl, rfl, rfl, rfl, rfl, rfl, rfl, by simp⟩, by simpa [intOf] using hms⟩
      · obtain rfl : i = 4 := by omega
        have Rr5 := Rr4.keep hK (by simpa using nrw)
        have hxe : Ext w wr := Ext.keep_ hxw4 hK (by simpa using hbwW)
        have hval : wsum ((List.range 9).map ws) = V f * V g + V h := by
          rw [wsum_rwn, hl9.out, HX.out, HY.out, HZ.out, Nat.add_comm]
        have hrd : Rd wr (some ⟨bw, 0, none⟩) (((List.range 9).map ws).map wq) := by
          have e : ((List.range 9).map ws).map wq = (rwn 9 ws ++ sp).take 9 := by
            rw [List.take_append_of_le_length (by rw [rwn_len]; exact Nat.le_refl _), List.take_of_length_le (by rw [rwn_len]; exact Nat.le_refl _), List.map_map]
            rfl
          rw [e]
          exact (row_rd Rw).take 9
        have hlen : ((List.range 9).map ws).length = 9 := by simp
        have hvx := Lib.hid hval
        generalize (List.range 9).map ws = l9 at *
        clear hval
        go_wp2_with (go_at_call 31; (with_reducible refine (rest_any _ 9 _ l9 wr hlen hrd (by decide)).mono ?_); rintro e w6 ⟨rfl, hx6⟩; rw [hvx.out]; have o2 := (Rr5.ext hx6).opt)
        obtain ⟨cr, hr1, hr2⟩ := Rr5.ext hx6
        exact bodyPost_ret (results_cell_row (p := 6) (ty := 22) rfl _ _ br 22 _ (0, 0) _ rfl (setRow_heap w6 br _ _ 22 (0, 0) hr1) Go.Proofs.YtgeihelkkhjjaaaDoor.u22 rfl (by rw [bcells_size]; exact i22)) rfl ⟨rfl, Ext.keep_ (ns := [br]) (hxe.trans hx6) ⟨rfl, rfl, rfl, by simp [World.setRow], fun k _ hk => setRow_other w6 br k _ (by simpa using hk)⟩ (by simpa using hbw)⟩
end Go.Proofs.YtgeihelkkhjjaaaDoor
end
