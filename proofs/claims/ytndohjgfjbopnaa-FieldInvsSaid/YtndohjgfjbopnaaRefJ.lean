/-
  Walks of the document's answer: 23 sums settled.
-/
import Derived.Test.YtndohjgfjbopnaaRefI
import Derived.Test.YtndohjgfjbopnaaSetl
set_option linter.unusedSimpArgs false
set_option linter.unusedVariables false
namespace Go.Cv
theorem leastN_round {P T : Nat → Prop} {M n : Nat} (h : P n) (hn : n < M) (hM : M = leastN T) : (∃ n, P n) ∧ leastN P < leastN T :=
  ⟨⟨n, h⟩, by rw [← hM]; exact leastN_lt h hn⟩
end Go.Cv
namespace Go.Proofs.Ytndohjgfjbopnaa
open Go.RowKit Go.Cv Go.Cv.Dig

set_option maxRecDepth 4000 in
set_option maxHeartbeats 4000000 in
theorem settle_any (w : World) (os0 : List Nat) (x0 : Nat × Array Obj) (N : Nat) (h0 : SetInv N os0 true) :
    Calls Try.prog 68 #[.slice (some ⟨w.heap.size, 0, none⟩) 23 23] (grw (w.alloc (.cells (icells os0) 3)) x0) fun e w' => ∃ v, e = .returned v ∧ Num w' v N 11 ∧ Ext w w' := by
  replace h0 := Lib.hid h0
  go_enter Try.func68, Try.ntmps68
  go_wp2
  obtain ⟨R, hR⟩ : ∃ R : World → Value → Nat → Prop, R = fun wr v n => ∃ (os : List Nat) (b : Bool) (x : Nat × Array Obj), n = 2 * dval os + (if b then 1 else 0) ∧ v = .bool b ∧ wr = grw (w.alloc (.cells (icells os) 3)) x ∧ Hid (SetInv N os b) := ⟨_, rfl⟩
  replace hR := Lib.hid hR
  go_loopw [3] (fun v wr => ∃ n, R wr v n) (fun v wr => leastN (R wr v))
  case atStart => exact ⟨_, by rw [hR.out]; exact ⟨os0, true, x0, rfl, rfl, rfl, h0⟩⟩
  case round =>
    have hsp := leastN_spec hrel
    clear hrel
    obtain ⟨M, hx⟩ : ∃ x, x = leastN (R wr u3) := ⟨_, rfl⟩
    rw [← hx, hR.out] at hsp
    replace hx := Lib.hid hx
    obtain ⟨os, b, x, hM, rfl, rfl, HS⟩ := hsp
    cases b with
    | false =>
      obtain ⟨l1, l2, l3⟩ := HS.out.last
      have hlen : (os.take 11).length = 11 := by rw [List.length_take, HS.out.len]; rfl
      have L := Lib.hid (And.intro l1 (And.intro l2 (And.intro l3 hlen)))
      clear l1 l2 l3 hlen
      have hrd : Rd (grw (w.alloc (.cells (icells os) 3)) x) (some ⟨w.heap.size, 0, none⟩) ((os.take 11).map iv) := by rw [List.map_take]; exact ((rd_icells w os _).ext (grw_ext _ _)).take 11
      go_wp2_with (first
        | (go_at_call 80; with_reducible refine (cut_any _ 11 _ (os.take 11) _ L.out.2.2.2 L.out.1 hrd (by decide) (by decide)).mono ?_; rintro e w' ⟨r, rfl, hri, hrv, hrc, rfl⟩)
        | (go_at_call 91; with_reducible refine (below_any _ r _ ((os.take 11).take r) _ (by rw [List.length_take, L.out.2.2.2, Nat.min_eq_left hri]) hrc (by rw [hrv]; exact L.out.2.1) (by rw [List.map_take]; exact hrd.take r) hri (by omega)).mono ?_; rintro e w' ⟨v, rfl, hv, hx9⟩))
      go_ret
      exact ⟨_, rfl, by rw [hrv, L.out.2.2.1] at hv; exact hv, ((ext_alloc _ _).trans (grw_ext _ _)).trans hx9⟩
    | true =>
      obtain ⟨X, hX⟩ : ∃ X, X = dval os := ⟨_, rfl⟩
      have HC : Hid (CarryInv X os 0) := Lib.hid (hX ▸ CarryInv.start HS.out.len HS.out.all)
      have HX : Hid (X < 16777216 ^ 23 ∧ X % (2 ^ 255 - 19) = N ∧ M = 2 * X + 1) := Lib.hid ⟨hX ▸ HS.out.val, hX ▸ HS.out.mod, by rw [hM, hX]; rfl⟩
      clear hM HS hX
      go_wp2
      go_loopw [4] (fun t wr => ∃ (i : Nat) (os : List Nat) (x : Nat × Array Obj), i ≤ 22 ∧ t = .int .i64 i ∧ wr = grw (w.alloc (.cells (icells os) 3)) x ∧ Hid (CarryInv X os i)) (fun t _ => 22 - (intOf t).toNat)
      case atStart => exact ⟨0, os, x, by decide, rfl, rfl, HC⟩
      case round =>
        clear HC
        obtain ⟨i, os, x, hi, rfl, rfl, HC⟩ := hrel
        have hlen : (icells os).size = 23 := by rw [icells_size, HC.out.len]
        by_cases hlt : i < 22
        · have h1 := HC.out.at_
          have h2 := HC.out.far (i + 1) (by omega)
          have hg : (icells os)[i]? = some (iv (dg os i)) := icells_get os (by rw [HC.out.len]; omega)
          have hg1 : ∀ h : i < (icells os).size, (icells os)[i]'h = iv (dg os i) := fun h => by rw [Array.getElem?_eq_getElem h] at hg; exact Option.some.inj hg
          have hg2 : (icells os)[i + 1]? = some (iv (dg os (i + 1))) := icells_get os (by rw [HC.out.len]; omega)
          have hg3 : ∀ h : i + 1 < (icells os).size, (icells os)[i + 1]'h = iv (dg os (i + 1)) := fun h => by rw [Array.getElem?_eq_getElem h] at hg2; exact Option.some.inj hg2
          have HT := Lib.hid (HC.out.step hlt)
          obtain ⟨e, he⟩ : ∃ e, e = dg os (i + 1) + dg os i / 16777216 := ⟨_, rfl⟩
          have w0 : IntKind.i64.wrap ((i : Int) + 1) = (i : Int) + 1 := IntWalk.i64_in _ (by omega)
          have w1 : IntKind.i64.wrap ((dg os i : Int) / 16777216) = (dg os i : Int) / 16777216 := IntWalk.i64_in _ (by omega)
          have w2 : IntKind.i64.wrap ((dg os (i + 1) : Int) + (dg os i : Int) / 16777216) = (e : Int) := by rw [IntWalk.i64_in _ (by omega), he]; rfl
          go_wp2
          go_region
          all_goals
            go_wp2
            refine ⟨⟨i + 1, (os.set (i + 1) (dg os (i + 1) + dg os i / 16777216)).set i (dg os i % 16777216), _, by omega, by go_num, by rw [← icells_set, ← icells_set]; rfl, HT⟩, by simp [intOf]; omega⟩
        · have hin : i = 22 := by omega
          subst hin
          have HD := Lib.hid (HC.out.done HX.out.1)
          have HF : Hid (FoldInv X os 0 false) := Lib.hid (FoldInv.start HD.out.1 HD.out.2.1 HD.out.2.2)
          clear HD HC hlen
          go_wp2
          go_loopw [3, 5] (fun v t wr => ∃ (k : Nat) (b : Bool) (os : List Nat) (x : Nat × Array Obj), k ≤ 12 ∧ v = .bool b ∧ t = .int .i64 ((k + 11 : Nat) : Int) ∧ wr = grw (w.alloc (.cells (icells os) 3)) x ∧ Hid (FoldInv X os k b)) (fun _ t _ => 23 - (intOf t).toNat)
          case atStart => exact ⟨0, false, os, x, by decide, rfl, rfl, rfl, HF⟩
          case round =>
            clear HF
            obtain ⟨k, b, os, x, hk, rfl, rfl, rfl, HF⟩ := hrel
            have hlen : (icells os).size = 23 := by rw [icells_size, HF.out.len]
            by_cases hlt : k < 12
            · have h1 := HF.out.far k (Nat.le_refl _)
              have h2 := HF.out.far (k + 11) (by omega)
              have hg : (icells os)[k]? = some (iv (dg os k)) := icells_get os (by rw [HF.out.len]; omega)
              have hg1 : ∀ h : k < (icells os).size, (icells os)[k]'h = iv (dg os k) := fun h => by rw [Array.getElem?_eq_getElem h] at hg; exact Option.some.inj hg
              have hg2 : (icells os)[k + 11]? = some (iv (dg os (k + 11))) := icells_get os (by rw [HF.out.len]; omega)
              have hg3 : ∀ h : k + 11 < (icells os).size, (icells os)[k + 11]'h = iv (dg os (k + 11)) := fun h => by rw [Array.getElem?_eq_getElem h] at hg2; exact Option.some.inj hg2
              have w0 : IntKind.i64.wrap (((k + 11 : Nat) : Int) - 11) = (k : Int) := by rw [IntWalk.i64_in _ (by omega)]; omega
              have w5 : ((k + 11 : Nat) : Int) < 23 := by omega
              by_cases hz : dg os (k + 11) = 0
              · have HT := Lib.hid (HF.out.zero hz)
                rw [hz] at hg2 hg3
                go_wp2
                refine ⟨⟨k + 1, b, os, x, by omega, rfl, by go_num, rfl, HT⟩, by simp [intOf]; omega⟩
              · have HT := Lib.hid (HF.out.step hlt (Nat.pos_of_ne_zero hz))
                have hz' : (0 : Int) < (dg os (k + 11) : Int) := by omega
                have w1 : IntKind.i64.wrap ((dg os (k + 11) : Int) * 19) = (dg os (k + 11) : Int) * 19 := IntWalk.i64_in _ (by omega)
                have w2 : IntKind.i64.wrap ((dg os (k + 11) : Int) * 19 * 512) = (dg os (k + 11) : Int) * 19 * 512 := IntWalk.i64_in _ (by omega)
                have w3 : IntKind.i64.wrap ((dg os k : Int) + (dg os (k + 11) : Int) * 19 * 512) = (dg os k : Int) + (dg os (k + 11) : Int) * 19 * 512 := IntWalk.i64_in _ (by omega)
                go_wp2
                go_region
                all_goals
                  go_wp2
                  refine ⟨⟨k + 1, true, (os.set k (dg os k + dg os (k + 11) * 19 * 512)).set (k + 11) 0, _, by omega, rfl, by go_num, by rw [← icells_set, ← icells_set]; rfl, HT⟩, by simp [intOf]; omega⟩
            · have hkn : k = 12 := by omega
              subst hkn
              have hg : (icells os)[10]? = some (iv (dg os 10)) := icells_get os (by rw [HF.out.len]; omega)
              have hg1 : ∀ h : 10 < (icells os).size, (icells os)[10]'h = iv (dg os 10) := fun h => by rw [Array.getElem?_eq_getElem h] at hg; exact Option.some.inj hg
              have hg2 : (icells os)[0]? = some (iv (dg os 0)) := icells_get os (by rw [HF.out.len]; omega)
              have hg3 : ∀ h : 0 < (icells os).size, (icells os)[0]'h = iv (dg os 0) := fun h => by rw [Array.getElem?_eq_getElem h] at hg2; exact Option.some.inj hg2
              have h10 := HF.out.all 10
              have h00 := HF.out.all 0
              cases b with
              | true =>
                have HT := Lib.hid (SetInv.fold HF.out HX.out.1 HX.out.2.1 (.inl rfl))
                go_wp2
                refine leastN_round (n := 2 * dval os + if true then 1 else 0) ?_ ?_ hx.out
                · rw [hR.out]
                  exact ⟨os, true, x, rfl, rfl, rfl, Lib.hid HT.out.1⟩
                · rw [HX.out.2.2]
                  exact HT.out.2
              | false =>
                by_cases hz : 32768 ≤ dg os 10
                · have hz' : decide ((32768 : Int) ≤ (dg os 10 : Int)) = true := decide_eq_true (by omega)
                  have HT := Lib.hid (SetInv.top HF.out HX.out.1 HX.out.2.1 hz)
                  have w1 : IntKind.i64.wrap ((dg os 10 : Int) / 32768) = (dg os 10 : Int) / 32768 := IntWalk.i64_in _ (by omega)
                  have w2 : IntKind.i64.wrap (19 * ((dg os 10 : Int) / 32768)) = 19 * ((dg os 10 : Int) / 32768) := IntWalk.i64_in _ (by omega)
                  have w3 : IntKind.i64.wrap ((dg os 0 : Int) + 19 * ((dg os 10 : Int) / 32768)) = (dg os 0 : Int) + 19 * ((dg os 10 : Int) / 32768) := IntWalk.i64_in _ (by omega)
                  clear hz
                  go_wp2
                  go_region
                  all_goals
                    go_wp2
                    refine leastN_round (n := 2 * dval ((os.set 0 (dg os 0 + 19 * (dg os 10 / 32768))).set 10 (dg os 10 % 32768)) + if true then 1 else 0) ?_ ?_ hx.out
                    · rw [hR.out]
                      exact ⟨(os.set 0 (dg os 0 + 19 * (dg os 10 / 32768))).set 10 (dg os 10 % 32768), true, _, rfl, rfl, by rw [← icells_set, ← icells_set]; rfl, Lib.hid HT.out.1⟩
                    · rw [HX.out.2.2]
                      exact HT.out.2
                · have hz' : decide ((32768 : Int) ≤ (dg os 10 : Int)) = false := decide_eq_false (by omega)
                  have HT := Lib.hid (SetInv.fold HF.out HX.out.1 HX.out.2.1 (.inr (by omega)))
                  clear hz
                  go_wp2
                  refine leastN_round (n := 2 * dval os + if false then 1 else 0) ?_ ?_ hx.out
                  · rw [hR.out]
                    exact ⟨os, false, x, rfl, rfl, rfl, Lib.hid HT.out.1⟩
                  · rw [HX.out.2.2]
                    exact HT.out.2
end Go.Proofs.Ytndohjgfjbopnaa
