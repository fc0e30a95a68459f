/-
  Walks of the disk's smallest functions: names, steps, how much there is, where a file is.
-/
import Derived.Test.YtkgnaabmcboffaaDoorDkM
import Derived.Test.YtkgnaabmcboffaaDoorShelf
set_option linter.unusedSimpArgs false
set_option linter.unusedVariables false
namespace Go.Proofs.YtkgnaabmcboffaaDoor
open Go.RowKit Go.Cv Go.Cv.Dk
theorem codeinfo : (Tryd.prog.info? 39).map (·.comparable) = some true := by kernel_rfl
@[go_sem] theorem eql_err (a b : Int) (w : World) : (binOp .eql 26 (.iface 39 (.int .i64 a)) (.iface 39 (.int .i64 b))).run Tryd.prog w = .ok (.bool (a == b)) w :=
  run_eql_iface_int' w a b Tryd.underlying26 Tryd.underlying39 codeinfo
/-- An error by its number. -/
def errV (n : Nat) : Value := if n = 0 then .nilIface else .iface 39 (.int .i64 n)
theorem u8rowD : RowT Tryd.prog 22 5 1 := RowT.of (z := .int .u8 0) Tryd.underlying22 (by kernel_rfl) rfl
theorem str_empty (l : List UInt8) : ((.string ⟨l.toArray⟩ : Value) = .string ⟨#[]⟩) ↔ l = [] := by
  constructor
  · intro h
    injection h with h
    injection h with h
    simpa using congrArg Array.toList h
  · rintro rfl; rfl
set_option maxRecDepth 4000 in
set_option maxHeartbeats 400000 in
theorem named_any (s : ByteArray) (w : World) (hs : s.size ≤ 281474976710656) :
    Calls Tryd.prog 18 #[.string s] w fun e w' => e = .returned (.bool (nameOk s.data.toList)) ∧ Ext w w' := by
  have hl : s.data.toList.length = s.size := Array.length_toList
  by_cases h1 : 1 ≤ s.size
  · by_cases h2 : s.size ≤ 32
    · have hT : ∀ w, Calls Tryd.prog 38 #[.string s, .string ⟨#[97, 98, 99, 100, 101, 102, 103, 104, 105, 106, 107, 108, 109, 110, 111, 112, 113, 114, 115, 116, 117, 118, 119, 120, 121, 122, 48, 49, 50, 51, 52, 53, 54, 55, 56, 57, 46]⟩] w fun e w' => e = .returned (.string ⟨(Lib.trimS s.data.toList cutset).toArray⟩) ∧ Below w.heap.size w w' :=
        fun w => Tryd.strings_Trim s ⟨#[97, 98, 99, 100, 101, 102, 103, 104, 105, 106, 107, 108, 109, 110, 111, 112, 113, 114, 115, 116, 117, 118, 119, 120, 121, 122, 48, 49, 50, 51, 52, 53, 54, 55, 56, 57, 46]⟩ w (by omega) (by decide) (ascii_of_all (by decide))
      have hall := trim_nil s.data.toList
      have hX : Hid (nameOk s.data.toList = decide (Lib.trimS s.data.toList cutset = [])) := Lib.hid (by
        unfold nameOk
        rw [hl, decide_eq_true ⟨h1, h2⟩, Bool.true_and, Bool.eq_iff_iff, decide_eq_true_eq]
        exact hall.symm)
      clear hall hl
      generalize Lib.trimS s.data.toList cutset = t at *
      generalize nameOk s.data.toList = r at *
      go_enter Tryd.func18, Tryd.ntmps18
      go_wp2_with (go_at_call 38; with_reducible refine (hT _).mono ?_; rintro e w' ⟨rfl, hx⟩)
      go_ret
      refine ⟨?_, hx⟩
      rw [hX.out]
      cases t <;> rfl
    · have hX : Hid (nameOk s.data.toList = false) := Lib.hid (by
        unfold nameOk
        rw [hl, decide_eq_false (fun h => h2 h.2), Bool.false_and])
      have h2' : ¬ (s.size : Int) ≤ 32 := by omega
      clear hl
      generalize nameOk s.data.toList = r at *
      go_enter Tryd.func18, Tryd.ntmps18
      go_wp2
      go_ret
      exact ⟨by rw [hX.out]; rfl, Ext.refl _⟩
  · have hX : Hid (nameOk s.data.toList = false) := Lib.hid (by
      unfold nameOk
      rw [hl, decide_eq_false (fun h => h1 h.1), Bool.false_and])
    have h2' : ¬ (1 : Int) ≤ (s.size : Int) := by omega
    clear hl
    generalize nameOk s.data.toList = r at *
    go_enter Tryd.func18, Tryd.ntmps18
    go_wp2
    go_ret
    exact ⟨by rw [hX.out]; rfl, Ext.refl _⟩
/-- The disk's row. -/
def dcells (room : Int) (mb : Nat) (off : Bool) (bud st : Int) : List Value := [.int .i64 room, .map (some mb), .bool off, .int .i64 bud, .int .i64 st]
set_option maxHeartbeats 400000 in
theorem step_core (d mb : Nat) (room bud st : Int) (off : Bool) (w : World) (hr : Row w d 52 (dcells room mb off bud st)) (h0 : -1 ≤ bud) (hm : bud ≤ 9223372036854775807) (r : Bool) (G : World → Prop)
    (hrb : r = decide (bud ≠ 0))
    (h1 : ∀ w', Keep [d] w w' → Row w' d 52 (if bud = 0 then dcells room mb true bud st else dcells room mb off (if bud > 0 then bud - 1 else bud) (wrap64 (st + 1))) → G w') :
    Calls Tryd.prog 20 #[.pointer (some ⟨d, 0, none⟩)] w fun e w' => e = .returned (.bool r) ∧ G w' := by
  have c0 : w.cell? ⟨d, 2, none⟩ = some (.bool off) := hr.cell (i := 2) (Nat.le.step (Nat.le.step (Nat.le.refl)))
  have c3 : w.cell? ⟨d, 3, none⟩ = some (.int .i64 bud) := hr.cell (i := 3) (Nat.le.step (Nat.le.refl))
  have c4 : w.cell? ⟨d, 4, none⟩ = some (.int .i64 st) := hr.cell (i := 4) Nat.le.refl
  have f2 := hr.fro 2
  have f3 := hr.fro 3
  have f4 := hr.fro 4
  by_cases hb : bud = 0
  · subst hb
    have hrow := hr.set 2 (.bool true)
    have hG := h1 _ (Keep.setCell _ ⟨d, 2, none⟩ _) hrow
    rw [hrb]
    clear h1 hrow hrb
    go_enter Tryd.func20, Tryd.ntmps20
    go_wp2
    go_ret
    exact ⟨rfl, hG⟩
  · rw [if_neg hb] at h1
    have hrx : r = true := by rw [hrb]; exact decide_eq_true hb
    subst hrx
    clear hrb
    by_cases hp : bud > 0
    · rw [if_pos hp] at h1
      have hrow := ((hr.set 3 (.int .i64 (bud - 1))).set 4 (.int .i64 (wrap64 (st + 1))))
      have hG := h1 _ ((Keep.setCell _ ⟨d, 3, none⟩ _).same (Keep.setCell _ ⟨d, 4, none⟩ _)) hrow
      have hr2 := hr.set 3 (.int .i64 (bud - 1))
      have d4 : (w.setCell ⟨d, 3, none⟩ (.int .i64 (bud - 1))).cell? ⟨d, 4, none⟩ = some (.int .i64 st) := hr2.cell (i := 4) Nat.le.refl
      have g4 := hr2.fro 4
      clear h1 hrow hr2
      go_enter Tryd.func20, Tryd.ntmps20
      go_wp2
      go_ret
      exact ⟨rfl, hG⟩
    · rw [if_neg hp] at h1
      have hrow := (hr.set 4 (.int .i64 (wrap64 (st + 1))))
      have hG := h1 _ (Keep.setCell _ ⟨d, 4, none⟩ _) hrow
      clear h1 hrow
      go_enter Tryd.func20, Tryd.ntmps20
      go_wp2
      go_ret
      exact ⟨rfl, hG⟩
/-- The disk's row turns, and nothing else. -/
theorem DiskAt.turn {w w' : World} {B d mb : Nat} {S S' : DS} {L : List GF} (h : DiskAt w B d mb S L) (hk : Keep [d] w w') (hr : Row w' d 52 (dcells S'.room mb S'.off S'.bud S'.st)) (hl : S'.l = S.l) (hok : S'.Ok) : DiskAt w' B d mb S' L :=
  ⟨hr, h.map.keep hk (by simpa using fun e => h.sep.dm e.symm), fun g hg => (h.fl g hg).keep hk fun x hx hm => by
    rw [List.mem_singleton.1 hm] at hx
    exact (h.sep.each g hg).2.1 hx, h.sep, by rw [hl]; exact h.ls, h.ge, hok⟩
theorem step_any (B d mb : Nat) (S : DS) (L : List GF) (w : World) (h : DiskAt w B d mb S L) :
    Calls Tryd.prog 20 #[.pointer (some ⟨d, 0, none⟩)] w fun e w' => e = .returned (.bool (stepd S wrap64).1) ∧ DiskAt w' B d mb (stepd S wrap64).2 L ∧ Keep [d] w w' := by
  refine step_core d mb S.room S.bud S.st S.off w h.row h.ok.b0 h.ok.b1 _ _ ?_ fun w' hk hr => ⟨h.turn hk ?_ (stepd_l S wrap64).1 (stepd_ok h.ok wrap64), hk⟩
  · unfold stepd
    by_cases hb : S.bud = 0 <;> simp [hb]
  · unfold stepd
    by_cases hb : S.bud = 0
    · rw [if_pos hb] at hr ⊢; exact hr
    · rw [if_neg hb] at hr ⊢; exact hr
end Go.Proofs.YtkgnaabmcboffaaDoor
