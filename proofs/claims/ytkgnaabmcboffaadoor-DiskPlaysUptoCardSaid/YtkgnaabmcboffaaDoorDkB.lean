/-
  Walks of the disk: how much there is, where a file is, a new disk, copies of bytes.
-/
import Derived.Test.YtkgnaabmcboffaaDoorDkA
set_option linter.unusedSimpArgs false
set_option linter.unusedVariables false
namespace Go.Proofs.YtkgnaabmcboffaaDoor
open Go.RowKit Go.Cv Go.Cv.Dk
/-- What is to be shown of a call's end, kept out of the walk. -/
theorem calls_hid {f : FuncId} {args : Array Value} {w : World} {R : Ending → World → Prop} (h : ∀ G : Ending → World → Prop, Hid (∀ e w', R e w' → G e w') → Calls Tryd.prog f args w G) : Calls Tryd.prog f args w R := h R (Lib.hid fun _ _ x => x)
section
variable {w : World} {ops : Array Oper} {rest : List Oper} {o : Oper} {a : Act} {Q : Exit → Act → World → Prop}
/-- A step of a range over the map of files. -/
theorem wpList_next_files (hg : o.guard = none) (it : Operand) (hop : o.op = Op.next it false) (mb r n : Nat) (L : List GF) (left : Lit → Bool) (cnt : Nat)
    (hit : a.eval it = .pointer (some ⟨r, 0, none⟩)) (h : w.ranges Tryd.prog 9 RF mb r n (.map (ents L)) left cnt)
    (hDone : (∀ g ∈ L, left (.string g.f.nm) = false) → wpList Tryd.prog ops Q rest (a.put o.dst (.tuple #[.bool false])) w)
    (hMore : ∀ (l1 l2 : List GF) (g : GF) (s : ByteArray) (w' : World) (cnt' : Nat), Hid (L = l1 ++ g :: l2) → Hid (g.f.nm = s.data.toList) → Hid (left (.string g.f.nm) = true) → w'.ranges Tryd.prog 9 RF mb r n (.map (ents L)) (fun z => left z && !z.sameKey (.string g.f.nm)) cnt' → cnt' < cnt → Keep [r] w w' →
      (Instr.entry (.pointer (some ⟨r, 0, none⟩))).run Tryd.prog w' = .ok (.tuple #[.string s, .pointer (some ⟨g.k, 0, none⟩)]) w' → wpList Tryd.prog ops Q rest (a.put o.dst (.tuple #[.bool true, .string s, .pointer (some ⟨g.k, 0, none⟩)])) w') :
    wpList Tryd.prog ops Q (o :: rest) a w := by
  refine wpList_next_ranges w hg it hop 9 strK RF (fun l : List UInt8 => .string ⟨l.toArray⟩) (fun v : Value => v) (fun key kl hk => ?_) (fun v y hv => ⟨v, rfl⟩) mb r n _ left cnt hit h (fun _ hl => hDone fun g _ => hl _) ?_
  · cases key <;> simp [keyOf, Tryd.underlying9, mapKey] at hk
    rename_i s
    exact ⟨s.data.toList, by simp⟩
  · intro x v kl y w' cnt' hkey hl hv hat hrg hlt hgr hsz hen
    have hkl : kl = .string x := by
      simp [keyOf, Tryd.underlying9, mapKey] at hkey
      exact hkey.2.symm
    subst hkl
    rcases hf : L.find? (fun g => g.f.nm == x) with _ | g
    · exfalso
      have hn : ∀ g ∈ L, g.f.nm ≠ x := fun g hg e => by
        have := List.find?_eq_none.1 hf g hg
        simp [e] at this
      have h1 := (atKey_none hn (.lit (.bool true))).1.symm.trans (hat _)
      have h2 := (atKey_none hn (.lit (.bool false))).1.symm.trans (hat _)
      rw [← h2] at h1
      simp at h1
    · obtain ⟨l1, l2, rfl, hn, rfl⟩ := ris_split hf
      have h1 := (atKey_some (l2 := l2) hn .nil).1.symm.trans (hat _)
      obtain ⟨y1, y2⟩ := y
      simp only at h1
      subst h1
      obtain rfl := RF_inv hv
      exact hMore l1 l2 g ⟨g.f.nm.toArray⟩ w' cnt' (Lib.hid rfl) (Lib.hid (by simp)) (Lib.hid hl) hrg hlt (Keep.grown hgr (by simp)) hen
end
/-- The bytes of the files still to come. -/
def restOf (L : List GF) (left : Lit → Bool) : Nat := ((L.filter fun g => left (.string g.f.nm)).map fun g => g.f.b.length).sum
theorem rest_none {L : List GF} {left : Lit → Bool} (h : ∀ g ∈ L, left (.string g.f.nm) = false) : restOf L left = 0 := by
  unfold restOf
  rw [List.filter_eq_nil_iff.2 (fun g hg => by rw [h g hg]; simp)]
  rfl
theorem rest_all {L : List GF} {left : Lit → Bool} (h : ∀ g ∈ L, left (.string g.f.nm) = true) : restOf L left = used (L.map GF.f) := by
  unfold restOf used
  rw [filter_all_ h, List.map_map]
  rfl
theorem rest_step {l1 l2 : List GF} {g : GF} {left : Lit → Bool} (h1 : ∀ z ∈ l1, z.f.nm ≠ g.f.nm) (h2 : ∀ z ∈ l2, z.f.nm ≠ g.f.nm) (hl : left (.string g.f.nm) = true) :
    restOf (l1 ++ g :: l2) left = g.f.b.length + restOf (l1 ++ g :: l2) (fun z => left z && !z.sameKey (.string g.f.nm)) := by
  have e : ∀ l : List GF, (∀ z ∈ l, z.f.nm ≠ g.f.nm) → (l.filter fun z => left (.string z.f.nm) && !(Lit.string z.f.nm).sameKey (.string g.f.nm)) = l.filter fun z => left (.string z.f.nm) := fun l hl => List.filter_congr fun z hz => by
    have : (Lit.string z.f.nm).sameKey (.string g.f.nm) = false := by simpa [Lit.sameKey] using hl z hz
    rw [this]; simp
  unfold restOf
  rw [List.filter_append, List.filter_append, List.filter_cons_of_pos (by simpa using hl), List.filter_cons_of_neg (by simp [Lit.sameKey]), e l1 h1, e l2 h2]
  simp only [List.map_append, List.map_cons, List.sum_append, List.sum_cons]
  omega
theorem has_all {L : List GF} : ∀ g ∈ L, Maps.has (.map (ents L)) (.string g.f.nm) = true := fun g hg => by
  show (ents L).any (fun p => p.1.sameKey (.string g.f.nm)) = true
  exact List.any_eq_true.2 ⟨_, List.mem_map.2 ⟨g, hg, rfl⟩, by simp [Lit.sameKey]⟩
theorem ext_grown {w w' : World} (h : w.grownBy w' none) : Ext w w' := ⟨h.os, h.tape, h.output, h.size, fun k hk => h.block k hk (by simp)⟩
theorem ext_keep {w a b : World} {bs : List Nat} (h : Ext w a) (k : Keep bs a b) (hb : ∀ x ∈ bs, w.heap.size ≤ x) : Ext w b :=
  ⟨k.os.trans h.os, k.tape.trans h.tape, k.output.trans h.output, Nat.le_trans h.size k.size, fun x hx => by
    have hs := h.size
    rw [k.keep x (by omega) (fun hm => by have := hb x hm; omega)]
    exact h.block x hx⟩
set_option maxHeartbeats 800000 in
theorem used_any (B d mb : Nat) (S : DS) (L : List GF) (w : World) (h : DiskAt w B d mb S L) :
    Calls Tryd.prog 19 #[.pointer (some ⟨d, 0, none⟩)] w fun e w' => e = .returned (.int .i64 (used S.l)) ∧ Ext w w' := by
  have c1 : w.cell? ⟨d, 1, none⟩ = some (.map (some mb)) := h.row.cell (i := 1) (by simp)
  have hown := h.map
  have hfl := h.fl
  have hris := h.map.ris
  have hu := h.ok.u
  have hr1 := h.ok.r1
  have hlt := h.row.lt
  obtain ⟨u, hU⟩ : ∃ u, u = used S.l := ⟨_, rfl⟩
  have hUL : Hid (u = used (L.map GF.f)) := Lib.hid (by rw [hU, h.ls])
  rw [← hU] at hu ⊢
  have hub : (u : Int) ≤ 9223372036854775807 := by omega
  clear hU h hu hr1
  unfold MapAt at hown
  go_enter Tryd.func19, Tryd.ntmps19
  go_wp2_with (at_range; refine wpList_range_own _ rfl _ 50 rfl 9 55 strK Tryd.underlying50 RF mb L.length (.map (ents L)) rfl hown ?_; intro w0 hrg0 hg0 hs0)
  go_frame
  go_loopw [3] (fun t wr => ∃ (left : Lit → Bool) (cnt m : Nat), wr.ranges Tryd.prog 9 RF mb w.heap.size L.length (.map (ents L)) left cnt ∧ t = .int .i64 m ∧ Hid (m + restOf L left = u) ∧ Ext w wr) (fun _ wr => wr.rangeLeft mb w.heap.size)
  case atStart => exact ⟨_, _, 0, hrg0, rfl, Lib.hid (by rw [rest_all has_all, hUL.out]; omega), ext_grown hg0⟩
  case round =>
    obtain ⟨left, cnt, m, hrg, rfl, hsum, hE⟩ := hrel
    go_wp2_with (at_next; refine wpList_next_files rfl _ rfl mb w.heap.size L.length L left cnt rfl hrg ?_ ?_)
    · intro hdone
      have hm : Hid (m = u) := Lib.hid (by rw [← hsum.out, rest_none hdone]; rfl)
      go_wp2
      go_ret
      exact ⟨by rw [hm.out]; rfl, hE⟩
    · intro l1 l2 g s w' cnt' hL hnm hl hrg' hlt' hk hen
      have hgm : g ∈ L := by rw [hL.out]; simp
      have hE' : Ext w w' := ext_keep hE hk (by simp)
      have hF := (hfl g hgm).keep (Keep.of_ext (bs := []) hE') (by simp)
      have e0 : w'.cell? ⟨g.k, 0, none⟩ = some (.slice g.A g.f.b.length g.c) := hF.row.cell (i := 0) (by simp)
      have hs2 : Hid (m + g.f.b.length + restOf L (fun z => left z && !z.sameKey (.string g.f.nm)) = u) := Lib.hid (by
        have h3 := hsum.out
        have h4 := hris
        rw [hL.out] at h4 h3 ⊢
        rw [rest_step (ris_after h4).1 (ris_after h4).2 hl.out] at h3
        omega)
      have hb := hs2.out
      have hb2 : m + g.f.b.length ≤ 9223372036854775807 := by omega
      clear hb hF hL hnm hl
      generalize g.f.b.length = q at *
      go_wp2
      go_round
      case rel => exact ⟨_, cnt', m + q, hrg', by go_num, hs2, hE'⟩
      case measure => rw [hrg'.left_eq, hrg.left_eq]; omega
/-- Where a file stands. -/
theorem DiskAt.inone {w : World} {B d mb : Nat} {S : DS} {L : List GF} (h : DiskAt w B d mb S L) {x : List UInt8} (hg : get S.l x = none) : ∀ g ∈ L, g.f.nm ≠ x := fun g hg' => get_none hg g.f (by rw [h.ls]; exact List.mem_map.2 ⟨g, hg', rfl⟩)
theorem DiskAt.isome {w : World} {B d mb : Nat} {S : DS} {L : List GF} (h : DiskAt w B d mb S L) {x : List UInt8} {f : PF} (hg : get S.l x = some f) :
    ∃ l1 l2 g, L = l1 ++ g :: l2 ∧ g.f = f ∧ g.f.nm = x ∧ (∀ z ∈ l1, z.f.nm ≠ x) ∧ (∀ z ∈ l2, z.f.nm ≠ x) := by
  have h1 : (L.find? fun g => GF.nm g == x) = L.find? ((fun f : PF => f.nm == x) ∘ GF.f) := rfl
  unfold Dk.get at hg
  rw [h.ls, List.find?_map] at hg
  rcases hq : L.find? ((fun f : PF => f.nm == x) ∘ GF.f) with _ | g
  · rw [hq] at hg; cases hg
  · rw [hq] at hg
    cases hg
    obtain ⟨l1, l2, rfl, h2, rfl⟩ := ris_split (key := GF.nm) (h1.trans hq)
    exact ⟨l1, l2, g, rfl, rfl, rfl, h2, (ris_after h.map.ris).2⟩
set_option maxHeartbeats 800000 in
theorem find_off (B d mb : Nat) (S : DS) (L : List GF) (s : ByteArray) (w : World) (h : DiskAt w B d mb S L) (ho : S.off = true) :
    Calls Tryd.prog 21 #[.pointer (some ⟨d, 0, none⟩), .string s] w fun e w' => e = .returned (.tuple #[.pointer none, .iface 39 (.int .i64 11)]) ∧ w = w' := by
  have c2 : w.cell? ⟨d, 2, none⟩ = Option.some (.bool S.off) := h.row.cell (i := 2) (by simp)
  rw [ho] at c2
  clear h ho
  go_enter Tryd.func21, Tryd.ntmps21
  go_wp2
  go_ret2
  exact ⟨rfl, rfl⟩
set_option maxHeartbeats 800000 in
theorem find_none (B d mb : Nat) (S : DS) (L : List GF) (s : ByteArray) (w : World) (h : DiskAt w B d mb S L) (hs : s.size ≤ 281474976710656) (ho : S.off = false) (hg : get S.l s.data.toList = none) :
    Calls Tryd.prog 21 #[.pointer (some ⟨d, 0, none⟩), .string s] w fun e w' => e = .returned (.tuple #[.pointer none, .iface 39 (.int .i64 9)]) ∧ w = w' := by
  have c1 : w.cell? ⟨d, 1, none⟩ = Option.some (.map (Option.some mb)) := h.row.cell (i := 1) (by simp)
  have c2 : w.cell? ⟨d, 2, none⟩ = Option.some (.bool S.off) := h.row.cell (i := 2) (by simp)
  rw [ho] at c2
  have hk := (h.map.look (by unfold maxLen; omega) (h.inone hg)).1
  clear h ho hg
  go_enter Tryd.func21, Tryd.ntmps21
  go_wp2
  go_ret2
  exact ⟨rfl, rfl⟩
set_option maxHeartbeats 800000 in
theorem find_ok (B d mb : Nat) (S : DS) (l1 l2 : List GF) (g : GF) (s : ByteArray) (w : World) (h : DiskAt w B d mb S (l1 ++ g :: l2)) (hs : s.size ≤ 281474976710656) (ho : S.off = false) (hn : ∀ z ∈ l1, z.f.nm ≠ s.data.toList) (hg : g.f.nm = s.data.toList) :
    Calls Tryd.prog 21 #[.pointer (some ⟨d, 0, none⟩), .string s] w fun e w' => e = .returned (.tuple #[.pointer (Option.some ⟨g.k, 0, Option.none⟩), .nilIface]) ∧ w = w' := by
  have c1 : w.cell? ⟨d, 1, none⟩ = Option.some (.map (Option.some mb)) := h.row.cell (i := 1) (by simp)
  have c2 : w.cell? ⟨d, 2, none⟩ = Option.some (.bool S.off) := h.row.cell (i := 2) (by simp)
  rw [ho] at c2
  have hk := (h.map.look' (by unfold maxLen; omega) (by rw [hg]; exact hn) hg).1
  clear h ho hg hn
  go_enter Tryd.func21, Tryd.ntmps21
  go_wp2
  go_ret2
  exact ⟨rfl, rfl⟩
@[go_sem] theorem eql_nil_bytes (A : Option Addr) (n c : Nat) (w : World) : (binOp .eql 22 (.slice A n c) (.slice none 0 0)).run Tryd.prog w = .ok (.bool A.isNone) w :=
  Lib.run_eql_slice_nil w _ _ A n c 0 0 Tryd.underlying22
/-- Bytes copied into a row of one's own. -/
def RetB (w : World) (n : Nat) (l : List UInt8) (v : Value) (w' : World) : Prop :=
  ∃ A c, v = .slice A n c ∧ Ext w w' ∧ w'.ownsRow w.heap.size 5 1 (.slice A n c) n (l.map bv) ∧ n ≤ c ∧ c ≤ maxLen ∧ Rd w' A (l.map bv)
set_option maxRecDepth 10000 in
set_option maxHeartbeats 800000 in
theorem clone_any (A : Option Addr) (n c : Nat) (l : List UInt8) (w : World) (hl : l.length = n) (hr : Rd w A (l.map bv)) (hA : A = none → n = 0 ∧ c = 0) (hb : n ≤ 140737488355328) :
    Calls Tryd.prog 22 #[.slice A n c] w fun e w' => ∃ v, e = .returned v ∧ RetB w n l v w' := by
  rcases A with _ | ad
  · obtain ⟨rfl, rfl⟩ := hA rfl
    obtain rfl : l = [] := List.length_eq_zero_iff.1 hl
    clear hr hl hA
    go_enter Tryd.func22, Tryd.ntmps22
    go_wp2
    go_ret
    exact ⟨_, rfl, none, 0, rfl, Ext.refl _, World.ownsRow_nil _ _ _ 1, Nat.le_refl _, by unfold maxLen; omega, Rd.nil_⟩
  · clear hA
    go_enter Tryd.func22, Tryd.ntmps22
    go_wp2_with (at_builtin; refine wpList_appb rfl (.tmp 5) (.tmp 6) 22 5 rfl u8rowD w.heap.size _ 0 [] rfl ⟨rfl, .inr ⟨w.heap.size, 0, #[], rfl, Nat.le_refl _, heap_alloc_new w _, Nat.le_refl _, by unfold maxLen; omega, rfl, rfl⟩⟩ (some ad) n c l rfl hl (hr.ext (ext_alloc _ _)) (by omega) (by simp) ?_; intro A' c' w' ho hc hm hr' hx)
    simp only [Nat.zero_add, List.nil_append] at ho hc hr' ⊢
    go_ret
    exact ⟨_, rfl, A', c', rfl, hx w (ext_alloc _ _) (Nat.le_refl _), ho, hc, hm, hr'⟩
/-- What a refusal of New's leaves; what it makes. -/
def newD (room : Int) : DS := ⟨room, [], false, -1, 0⟩
set_option maxHeartbeats 800000 in
theorem new_any (room : Int) (w : World) (h0 : 0 ≤ room) (h1 : room ≤ 9223372036854775807) :
    Calls Tryd.prog 6 #[.int .i64 room] w fun e w' => e = .returned (.tuple #[.pointer (some ⟨w.heap.size + 1, 0, none⟩), .nilIface]) ∧ DiskAt w' w.heap.size (w.heap.size + 1) w.heap.size (newD room) [] ∧ Ext w w' := by
  have hm := @run_makeMap Tryd.prog
  go_enter Tryd.func6, Tryd.ntmps6
  go_wp2
  go_ret2
  refine ⟨rfl, ⟨?_, ?_, by simp, ⟨by simp, by simp, List.Pairwise.nil⟩, rfl, ⟨by simp, Nat.le_refl _⟩, ⟨h0, h1, by simp [newD], by simp [newD], by simpa [newD, used] using h0, by simp [newD], by simp [newD], by simp [newD, Ris]⟩⟩, (ext_alloc _ _).trans (ext_alloc _ _)⟩
  · have := Row.alloc (w.alloc (.map #[] 0)) (dcells room w.heap.size false (-1) 0) 52
    have e : (w.alloc (.map #[] 0)).heap.size = w.heap.size + 1 := by simp
    rw [e] at this
    exact this
  · exact (MapAt.made w).keep (Keep.of_ext (bs := []) (ext_alloc _ _)) (by simp)
set_option maxHeartbeats 800000 in
theorem new_neg (room : Int) (w : World) (h0 : room < 0) :
    Calls Tryd.prog 6 #[.int .i64 room] w fun e w' => e = .returned (.tuple #[.pointer none, .iface 39 (.int .i64 1)]) ∧ w = w' := by
  go_enter Tryd.func6, Tryd.ntmps6
  go_wp2
  go_ret2
  exact ⟨rfl, rfl⟩
set_option maxHeartbeats 800000 in
theorem cut_any (B d mb : Nat) (n : Int) (S : DS) (L : List GF) (w : World) (h : DiskAt w B d mb S L) (hn : n ≤ 9223372036854775807) :
    Calls Tryd.prog 9 #[.pointer (some ⟨d, 0, none⟩), .int .i64 n] w fun e w' => e = .returned (errV (cutd S n).1) ∧ DiskAt w' B d mb (cutd S n).2 L ∧ Keep [d] w w' := by
  refine calls_hid fun G hG => ?_
  have c2 : w.cell? ⟨d, 2, none⟩ = Option.some (.bool S.off) := h.row.cell (i := 2) (by simp)
  have c3 : w.cell? ⟨d, 3, none⟩ = Option.some (.int .i64 S.bud) := h.row.cell (i := 3) (by simp)
  have f3 := h.row.fro 3
  by_cases h0 : n < 0
  · have hg : G (.returned (errV 1)) w := hG.out _ _ (by rw [show cutd S n = (1, S) from if_pos h0]; exact ⟨rfl, h, Keep.refl _ _⟩)
    clear h hG
    go_enter Tryd.func9, Tryd.ntmps9
    go_wp2
    exact hg
  · cases ho : S.off
    · have hk := Keep.setCell w ⟨d, 3, none⟩ (.int .i64 n)
      have hg : G (.returned (errV 0)) (w.setCell ⟨d, 3, none⟩ (.int .i64 n)) := hG.out _ _ (by
        have e : cutd S n = (0, { S with bud := n }) := by unfold cutd; rw [if_neg h0, ho]; rfl
        rw [e]
        exact ⟨rfl, h.turn hk (h.row.set 3 _) rfl ⟨h.ok.r0, h.ok.r1, by show -1 ≤ n; omega, hn, h.ok.u, h.ok.nm, h.ok.sy, h.ok.ris⟩, hk⟩)
      rw [ho] at c2
      clear h hG ho hk
      go_enter Tryd.func9, Tryd.ntmps9
      go_wp2
      exact hg
    · have hg : G (.returned (errV 0)) w := hG.out _ _ (by
        have e : cutd S n = (0, S) := by unfold cutd; rw [if_neg h0, ho]; rfl
        rw [e]
        exact ⟨rfl, h, Keep.refl _ _⟩)
      rw [ho] at c2
      clear h hG ho
      go_enter Tryd.func9, Tryd.ntmps9
      go_wp2
      exact hg
set_option maxHeartbeats 800000 in
theorem read_bad (B d mb : Nat) (S : DS) (L : List GF) (s : ByteArray) (w : World) (h : DiskAt w B d mb S L) (hs : s.size ≤ 281474976710656) (hf : fnd S s.data.toList ≠ 0) :
    Calls Tryd.prog 12 #[.pointer (some ⟨d, 0, none⟩), .string s] w fun e w' => e = .returned (.tuple #[.slice none 0 0, errV (fnd S s.data.toList)]) ∧ w = w' := by
  cases ho : S.off
  · rcases hq : Dk.get S.l s.data.toList with _ | f
    · have hF := fun w h => find_none B d mb S L s w h hs ho hq
      have e : fnd S s.data.toList = 9 := by unfold fnd has; rw [ho, hq]; rfl
      rw [e]
      clear hf e
      have hF := hF w h
      clear h ho hq
      go_enter Tryd.func12, Tryd.ntmps12
      go_wp2_with (go_at_call 21; with_reducible refine hF.mono ?_; rintro e w' ⟨rfl, rfl⟩)
      go_ret2
      exact ⟨rfl, rfl⟩
    · exfalso; exact hf (by unfold fnd has; rw [ho, hq]; rfl)
  · have hF := find_off B d mb S L s w h ho
    have e : fnd S s.data.toList = 11 := by unfold fnd; rw [ho]; rfl
    rw [e]
    clear hf e h ho
    go_enter Tryd.func12, Tryd.ntmps12
    go_wp2_with (go_at_call 21; with_reducible refine hF.mono ?_; rintro e w' ⟨rfl, rfl⟩)
    go_ret2
    exact ⟨rfl, rfl⟩
theorem fnd_ok {S : DS} {x : List UInt8} (h : fnd S x = 0) : S.off = false ∧ ∃ f, Dk.get S.l x = some f := by
  unfold fnd has at h
  cases ho : S.off
  · rcases hq : Dk.get S.l x with _ | f
    · rw [ho, hq] at h; cases h
    · exact ⟨rfl, f, rfl⟩
  · rw [ho] at h; cases h
set_option maxHeartbeats 800000 in
theorem read_ok (B d mb : Nat) (S : DS) (L : List GF) (s : ByteArray) (w : World) (h : DiskAt w B d mb S L) (hs : s.size ≤ 281474976710656) (hf : fnd S s.data.toList = 0) (hb : (cont S s.data.toList).length ≤ 140737488355328) :
    Calls Tryd.prog 12 #[.pointer (some ⟨d, 0, none⟩), .string s] w fun e w' => ∃ v, e = .returned (.tuple #[v, .nilIface]) ∧ RetB w (cont S s.data.toList).length (cont S s.data.toList) v w' := by
  obtain ⟨ho, f, hq⟩ := fnd_ok hf
  obtain ⟨l1, l2, g, rfl, rfl, hnm, h1, h2⟩ := h.isome hq
  have e : cont S s.data.toList = g.f.b := by unfold cont; rw [hq]
  rw [e] at hb ⊢
  have hF := find_ok B d mb S l1 l2 g s w h hs ho h1 hnm
  have hG := h.fl g (by simp)
  have c0 : w.cell? ⟨g.k, 0, none⟩ = some (.slice g.A g.f.b.length g.c) := hG.row.cell (i := 0) (by simp)
  have hC := clone_any g.A g.f.b.length g.c g.f.b w rfl hG.rd hG.nil hb
  generalize g.f.b.length = q at *
  clear h hG e
  go_enter Tryd.func12, Tryd.ntmps12
  go_wp2_with (first
    | (go_at_call 21; with_reducible refine hF.mono ?_; rintro e w' ⟨rfl, rfl⟩)
    | (go_at_call 22; with_reducible refine hC.mono ?_; rintro e w2 ⟨v, rfl, hv⟩))
  go_ret2
  exact ⟨v, rfl, hv⟩
end Go.Proofs.YtkgnaabmcboffaaDoor
