/-
  The laws' arguments, opened: a script, a row of bools. Conditions: none.
-/
import Derived.Test.YthndplpbnfihdaaLe
import Derived.Deep.Slices
import Derived.Deep.Fields
import Derived.ChangeSame
set_option linter.unusedVariables false
set_option linter.unusedSimpArgs false
namespace Go.Proofs.Ythndplpbnfihdaa
open Go.ChangeShapes Go.WideShapes Go.Deep Go.RowKit

section
variable {H : Type} {enc : TypeId × Value → H} {P : Program} {w : World} {base : Nat} {spare : Nat → Bool} {held : Bool}
theorem open_slice_fields {t e : TypeId} {fs : Array Field} {fuel : Nat} {cs : List Value} {x : DataW H × List MemPlace} (ht : P.underlying t = some (.slice e)) (he : P.underlying e = some (.struct fs))
    (hone : oneCellFields P fs = true) (hC : P.cellsOf e = fs.size) (h : DataW.trod enc P w base spare held fuel t cs = some x) :
    (cs = [.slice none 0 0]) ∨
    ∃ (a : Addr) (len cap : Nat), cs = [.slice (some a) len cap] ∧ len ≤ cap ∧ cap ≤ maxLen ∧
      ∀ i, i < len → ∃ (n : Nat), ∀ (j : Nat) (f : Field), fs[j]? = some f → ∃ (v : Value) (y : DataW H × List MemPlace), w.cell? (a.add (i * fs.size + j)) = some v ∧ DataW.trod enc P w base spare held n f.type [v] = some y := by
  rcases open_slice ht h with h0 | ⟨a, len, cap, m, n, D, Pl, hcs, hb, hl, hm, hmm, hx, hi⟩
  · exact .inl h0.1
  · refine .inr ⟨a, len, cap, hcs, hl, hm, fun i him => ?_⟩
    obtain ⟨cs', hc, ht'⟩ := hi i (by rw [hmm]; split <;> omega)
    rw [hC] at hc
    obtain ⟨ys, n', hn', hy, hlen, hyl, hf⟩ := DataW.trod_struct he ht'
    obtain ⟨_, hcl, hat⟩ := World.cells?_some hc
    refine ⟨n', fun j f hj => ?_⟩
    obtain ⟨ho, hk⟩ := hone_of hone j f hj
    have hjl : j < fs.size := (Array.getElem?_eq_some_iff.1 hj).1
    have hcell := hat j hjl
    have hv : cs'[j]? = some (cs'[j]'(by omega)) := List.getElem?_eq_getElem (by omega)
    have h1 := hf j f hj
    rw [ho, hk] at h1
    have hone' : (cs'.drop j).take 1 = [cs'[j]'(by omega)] := by
      rw [List.drop_eq_getElem_cons (by omega)]
      rfl
    rw [hone'] at h1
    have hys : ys[j]? = some (ys[j]'(by omega)) := List.getElem?_eq_getElem (by omega)
    refine ⟨_, _, ?_, h1.trans hys⟩
    rw [← Go.Deep.add_add, hcell, hv]

theorem open_script {fuel : Nat} {A : Option Addr} {n c : Nat} {x : DataW H × List MemPlace} (h : DataW.trod enc Try.prog w base spare held fuel 45 [.slice A n c] = some x) :
    n ≤ maxLen ∧ ∃ (b off : Nat) (Kd Rw : Nat → Int) (Ky : Nat → ByteArray), (0 < n → A = some ⟨b, off, none⟩) ∧ ∀ i, i < n → w.cell? ⟨b, off + i * 3, none⟩ = some (.int .i64 (Kd i)) ∧ w.cell? ⟨b, off + i * 3 + 1, none⟩ = some (.int .i64 (Rw i)) ∧ w.cell? ⟨b, off + i * 3 + 2, none⟩ = some (.string (Ky i)) := by
  rcases open_slice_fields Try.underlying45 Try.underlying83 (by kernel_rfl) (by kernel_rfl) h with hcs | ⟨a, len, cap, hcs, hl, hm, hf⟩
  · simp at hcs
    obtain ⟨rfl, rfl, rfl⟩ := hcs
    exact ⟨Nat.zero_le _, 0, 0, fun _ => 0, fun _ => 0, fun _ => ByteArray.empty, fun h => absurd h (by omega), fun i h => absurd h (by omega)⟩
  · simp at hcs
    obtain ⟨rfl, rfl, rfl⟩ := hcs
    refine ⟨by omega, ?_⟩
    rcases Nat.eq_zero_or_pos n with h0 | h0
    · exact ⟨0, 0, fun _ => 0, fun _ => 0, fun _ => ByteArray.empty, fun h => absurd h (by omega), fun i h => absurd h (by omega)⟩
    · obtain ⟨b, off, spot⟩ := a
      have hc3 : ∀ i, i < n → ∃ (k r : Int) (s : ByteArray), w.cell? ((⟨b, off, spot⟩ : Addr).add (i * 3 + 0)) = some (.int .i64 k) ∧ w.cell? ((⟨b, off, spot⟩ : Addr).add (i * 3 + 1)) = some (.int .i64 r) ∧ w.cell? ((⟨b, off, spot⟩ : Addr).add (i * 3 + 2)) = some (.string s) := by
        intro i hi
        obtain ⟨m, hg⟩ := hf i hi
        obtain ⟨v0, y0, c0, t0⟩ := hg 0 _ rfl
        obtain ⟨v1, y1, c1, t1⟩ := hg 1 _ rfl
        obtain ⟨v2, y2, c2, t2⟩ := hg 2 _ rfl
        obtain ⟨k, e0, _, _⟩ := DataW.trod_int Try.underlying3 t0
        obtain ⟨r, e1, _, _⟩ := DataW.trod_int Try.underlying3 t1
        obtain ⟨s, e2, _, _⟩ := DataW.trod_string Try.underlying9 t2
        simp at e0 e1 e2
        subst e0 e1 e2
        exact ⟨k, r, s, c0, c1, c2⟩
      have hspot : spot = none := by
        obtain ⟨_, _, _, h1, _, _⟩ := hc3 0 h0
        simpa [Addr.add] using World.cell?_spot h1
      subst hspot
      have hc4 : ∀ i, i < n → ∃ (k r : Int) (s : ByteArray), w.cell? ⟨b, off + i * 3, none⟩ = some (.int .i64 k) ∧ w.cell? ⟨b, off + i * 3 + 1, none⟩ = some (.int .i64 r) ∧ w.cell? ⟨b, off + i * 3 + 2, none⟩ = some (.string s) := by
        intro i hi
        obtain ⟨k, r, s, h1, h2, h3⟩ := hc3 i hi
        rw [add_lit] at h1 h2 h3
        exact ⟨k, r, s, h1, h2, h3⟩
      refine ⟨b, off, fun i => if hi : i < n then (hc4 i hi).choose else 0, fun i => if hi : i < n then (hc4 i hi).choose_spec.choose else 0, fun i => if hi : i < n then (hc4 i hi).choose_spec.choose_spec.choose else ByteArray.empty, fun _ => rfl, fun i hi => ?_⟩
      simp only [dif_pos hi]
      exact (hc4 i hi).choose_spec.choose_spec.choose_spec

theorem open_bools {fuel : Nat} {A : Option Addr} {n c : Nat} {x : DataW H × List MemPlace} (h : DataW.trod enc Try.prog w base spare held fuel 41 [.slice A n c] = some x) :
    n ≤ maxLen ∧ ∃ St : Nat → Bool, 0 < n → ∃ a, A = some a ∧ ∀ i, i < n → w.cell? (a.add i) = some (.bool (St i)) := by
  rcases open_slice1 Try.underlying41 (by kernel_rfl) h with ⟨hcs, _⟩ | ⟨a, len, cap, m, n', V, D, Pl, hcs, _, hl, hm, hmm, _, hf⟩
  · simp at hcs
    obtain ⟨rfl, rfl, rfl⟩ := hcs
    exact ⟨Nat.zero_le _, fun _ => false, fun h => absurd h (by omega)⟩
  · simp at hcs
    obtain ⟨rfl, rfl, rfl⟩ := hcs
    have hb : ∀ i, i < n → ∃ b, w.cell? (a.add i) = some (.bool b) := by
      intro i hi
      obtain ⟨h1, h2⟩ := hf i (by rw [hmm]; split <;> omega)
      obtain ⟨b, e, _⟩ := DataW.trod_bool Try.underlying4 h2
      simp at e
      exact ⟨b, by rw [h1, e]⟩
    refine ⟨by omega, fun i => if hi : i < n then (hb i hi).choose else false, fun _ => ⟨a, rfl, fun i hi => ?_⟩⟩
    simp only [dif_pos hi]; exact (hb i hi).choose_spec
end
end Go.Proofs.Ythndplpbnfihdaa
