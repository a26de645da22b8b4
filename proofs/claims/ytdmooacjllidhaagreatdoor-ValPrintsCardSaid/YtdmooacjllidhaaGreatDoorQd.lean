/-
  val.Read. Conditions: the library's variables are laid.
-/
import Derived.Test.YtdmooacjllidhaaGreatDoorQc
set_option linter.unusedVariables false
set_option linter.unusedSimpArgs false
namespace Go.Proofs.YtdmooacjllidhaaGreatDoor
open Go.RowKit

def CV (v : Int × Int × ByteArray) : Prop := cln v.1 v.2.1 v.2.2 = v ∧ -9223372036854775808 ≤ v.2.1 ∧ v.2.1 ≤ 9223372036854775807

/-- What a reading tells: a value that prints so, or that there is none. -/
structure RSpec (l : List UInt8) (v : Int × Int × ByteArray) (ok : Bool) : Prop where
  yes : ok = true → CV v ∧ PB v = l
  no : ok = false → v = (0, 0, ⟨#[]⟩) ∧ ∀ c, CV c → PB c ≠ l

theorem cv_kind {v : Int × Int × ByteArray} (h : CV v) : (v = (0, 0, ⟨#[]⟩)) ∨ (v = (1, 0, ⟨#[]⟩)) ∨ (v = (1, 1, ⟨#[]⟩)) ∨ (∃ n, v = (2, n, ⟨#[]⟩) ∧ -9223372036854775808 ≤ n ∧ n ≤ 9223372036854775807) ∨ ∃ s, v = (3, 0, s) := by
  obtain ⟨k, n, s⟩ := v
  obtain ⟨h, h0, h1⟩ := h
  simp only at h h0 h1
  have he : ∀ s : ByteArray, s.toList = [] → s = ⟨#[]⟩ := fun s hs => by
    rw [Lib.toList_data] at hs
    exact Go.WideShapes.bytes_inj (by rw [hs])
  unfold cln at h
  split at h
  · rename_i ho
    unfold okV at ho
    split at ho
    · rename_i hk
      simp only [Bool.and_eq_true, beq_iff_eq, List.isEmpty_iff] at ho
      rw [hk, ho.1, he s ho.2]; exact .inl rfl
    · split at ho
      · rename_i hk
        simp only [Bool.and_eq_true, Bool.or_eq_true, beq_iff_eq, List.isEmpty_iff] at ho
        rw [hk, he s ho.2]
        rcases ho.1 with hn | hn <;> rw [hn]
        · exact .inr (.inl rfl)
        · exact .inr (.inr (.inl rfl))
      · split at ho
        · rename_i hk
          simp only [List.isEmpty_iff] at ho
          rw [hk, he s ho]
          exact .inr (.inr (.inr (.inl ⟨n, rfl, h0, h1⟩)))
        · simp only [Bool.and_eq_true, beq_iff_eq] at ho
          rw [ho.1, ho.2]
          exact .inr (.inr (.inr (.inr ⟨s, rfl⟩)))
  · injection h with hk h
    injection h with hn h
    rw [← hk, ← hn, ← h]
    exact .inl rfl

theorem cv_null : CV (0, 0, ⟨#[]⟩) := ⟨by simp [cln, okV], by decide, by decide⟩
theorem cv_false : CV (1, 0, ⟨#[]⟩) := ⟨by simp [cln, okV], by decide, by decide⟩
theorem cv_true : CV (1, 1, ⟨#[]⟩) := ⟨by simp [cln, okV], by decide, by decide⟩
theorem cv_int {n : Int} (h0 : -9223372036854775808 ≤ n) (h1 : n ≤ 9223372036854775807) : CV (2, n, ⟨#[]⟩) := ⟨by simp [cln, okV, Lib.toList_data], h0, h1⟩
theorem cv_text (s : ByteArray) : CV (3, 0, s) := ⟨by simp [cln, okV], show (-9223372036854775808 : Int) ≤ 0 by decide, show (0 : Int) ≤ 9223372036854775807 by decide⟩

theorem pb_null : PB (0, 0, ⟨#[]⟩) = [78, 85, 76, 76] := rfl
theorem pb_false : PB (1, 0, ⟨#[]⟩) = [70, 65, 76, 83, 69] := rfl
theorem pb_true : PB (1, 1, ⟨#[]⟩) = [84, 82, 85, 69] := rfl
theorem pb_int (n : Int) : PB (2, n, ⟨#[]⟩) = Lib.itoa n := by simp [PB]
theorem pb_text (s : ByteArray) : PB (3, 0, s) = 39 :: (escL s.data.toList ++ [39]) := by simp [PB]

/-- What a text can be the print of. -/
theorem cand_of {l : List UInt8} {n er : Int} (hp : PI l n er) {c : Int × Int × ByteArray} (hc : CV c) (h : PB c = l) :
    (c = (0, 0, ⟨#[]⟩) ∧ l = [78, 85, 76, 76]) ∨ (c = (1, 0, ⟨#[]⟩) ∧ l = [70, 65, 76, 83, 69]) ∨ (c = (1, 1, ⟨#[]⟩) ∧ l = [84, 82, 85, 69]) ∨ (c = (2, n, ⟨#[]⟩) ∧ er = 0) ∨ (∃ u, c = (3, 0, u) ∧ er ≠ 0 ∧ l = 39 :: (escL u.data.toList ++ [39])) := by
  rcases cv_kind hc with rfl | rfl | rfl | ⟨m, rfl, g0, g1⟩ | ⟨u, rfl⟩
  · exact .inl ⟨rfl, h.symm⟩
  · exact .inr (.inl ⟨rfl, h.symm⟩)
  · exact .inr (.inr (.inl ⟨rfl, h.symm⟩))
  · rw [pb_int] at h
    obtain ⟨rfl, h0⟩ := hp.num m g0 g1 h.symm
    exact .inr (.inr (.inr (.inl ⟨rfl, h0⟩)))
  · rw [pb_text] at h
    exact .inr (.inr (.inr (.inr ⟨u, rfl, hp.quo _ h.symm, h.symm⟩)))

theorem pb_inj {c d : Int × Int × ByteArray} (hc : CV c) (hd : CV d) (h : PB c = PB d) : c = d := by
  have hq : ∀ (n : Int) (r : List UInt8), Lib.itoa n ≠ 39 :: r := fun n r e => by
    obtain ⟨x, y, e', hx⟩ := itoa_head n
    rw [e] at e'
    injection e' with e' _
    subst e'
    rcases hx with hx | hx
    · cases hx
    · exact absurd hx (by decide)
  have hl : ∀ (n : Int) (x : UInt8) (r : List UInt8), Lib.itoa n = x :: r → x = 78 ∨ x = 70 ∨ x = 84 → False := fun n x r e h => by
    obtain ⟨x', y, e', hx⟩ := itoa_head n
    rw [e] at e'
    injection e' with e' _
    subst e'
    rcases h with rfl | rfl | rfl <;> rcases hx with hx | hx <;> first | (cases hx; done) | exact absurd hx (by decide)
  have hesc : ∀ u u' : ByteArray, escL u.data.toList ++ [39] = escL u'.data.toList ++ [39] → u = u' := fun u u' e => by
    have e1 := scan_esc u.data.toList
    rw [e, scan_esc] at e1
    exact (Go.WideShapes.bytes_inj e1.symm)
  rcases cv_kind hc with rfl | rfl | rfl | ⟨m, rfl, g0, g1⟩ | ⟨u, rfl⟩ <;> rcases cv_kind hd with rfl | rfl | rfl | ⟨m', rfl, g0', g1'⟩ | ⟨u', rfl⟩ <;> simp only [pb_null, pb_false, pb_true, pb_int, pb_text] at h <;>
    first
    | rfl
    | (injection h with _ h; rw [hesc _ _ h]; done)
    | (exfalso; revert h; decide)
    | (exfalso; revert h; simp; done)
    | (exact (hl _ _ _ h (by decide)).elim)
    | (exact (hl _ _ _ h.symm (by decide)).elim)
    | (exact absurd h (hq _ _))
    | (exact absurd h.symm (hq _ _))
    | (rw [itoa_inj g0 g1 g0' g1' h])

theorem rspec_fun {l : List UInt8} {v v' : Int × Int × ByteArray} {ok ok' : Bool} (h : RSpec l v ok) (h' : RSpec l v' ok') : v = v' ∧ ok = ok' := by
  cases ok <;> cases ok'
  · rw [(h.no rfl).1, (h'.no rfl).1]; exact ⟨rfl, rfl⟩
  · exact absurd (h'.yes rfl).2 ((h.no rfl).2 _ (h'.yes rfl).1)
  · exact absurd (h.yes rfl).2 ((h'.no rfl).2 _ (h.yes rfl).1)
  · exact ⟨pb_inj (h.yes rfl).1 (h'.yes rfl).1 ((h.yes rfl).2.trans (h'.yes rfl).2.symm), rfl⟩

theorem rspec_mk {l : List UInt8} {v : Int × Int × ByteArray} (hv : CV v) (hc : ∀ c, CV c → PB c = l → c = v) : (PB v = l → RSpec l v true) ∧ (PB v ≠ l → RSpec l (0, 0, ⟨#[]⟩) false) :=
  ⟨fun h => ⟨fun _ => ⟨hv, h⟩, (fun h => by cases h)⟩, fun h => ⟨(fun h => by cases h), fun _ => ⟨rfl, fun c cc e => h (by rw [← hc c cc e]; exact e)⟩⟩⟩
end Go.Proofs.YtdmooacjllidhaaGreatDoor
