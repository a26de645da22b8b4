/-
  slices.Insert and slices.Delete on rows of keys, of rows' numbers and of nodes: their contracts in the words of the tree. Conditions: short rows.
-/
import Derived.Test.YthndplpbnfihdaaSd
import Derived.Test.YthndplpbnfihdaaHf2
set_option linter.unusedVariables false
set_option linter.unusedSimpArgs false
namespace Go.Proofs.Ythndplpbnfihdaa
open Go.RowKit

theorem Own.past {w w' : World} {e t : TypeId} {v : Value} {xs : List Value} {b : Nat} {cs : Array Value} (h : Own w e v xs) (hb : Blk w b t cs) (hne : e ≠ t) (hc : Chg (fun k => k = b) w w') : Own w' e v xs :=
  h.chg hc fun g hg e => h.ne_blk hb hne (e ▸ hg)
theorem Blk.past {w w' : World} {e t : TypeId} {g b : Nat} {ds cs : Array Value} (h : Blk w g e ds) (hb : Blk w b t cs) (hne : e ≠ t) (hc : Chg (fun k => k = b) w w') : Blk w' g e ds :=
  h.chg hc (h.ne_ hb hne)

/-- A row of n values, made of row v. -/
def NewRow (w : World) (E : TypeId) (v : Value) (n : Nat) (xs : List Value) (e : Ending) (w' : World) : Prop :=
  ∃ g c, e = .returned (.slice (some ⟨g, 0, none⟩) n c) ∧ Own w' E (.slice (some ⟨g, 0, none⟩) n c) xs ∧ (v.ownBlock = some g ∨ w.heap.size ≤ g) ∧ Chg (fun k => v.ownBlock = some k) w w'

theorem RowPost.new {w : World} {E : TypeId} {v : Value} {xs ys : List Value} {n : Nat} {e : Ending} {w' : World} (h : RowPost w E v xs e w') (hx : xs = ys) (hn : ys.length = n) : NewRow w E v n ys e w' := by
  subst hx hn
  exact h

theorem strs_put (l : List ByteArray) (i : Nat) (k : ByteArray) : (strs l).take i ++ .string k :: (strs l).drop i = strs (l.take i ++ k :: l.drop i) := by simp [strs, List.map_take, List.map_drop]
theorem nums_put (l : List Int) (i : Nat) (k : Int) : (nums l).take i ++ .int .i64 k :: (nums l).drop i = nums (l.take i ++ k :: l.drop i) := by simp [nums, List.map_take, List.map_drop]
theorem ptrs_put (l : List Nat) (i : Nat) (k : Nat) : (ptrs l).take i ++ ptr k :: (ptrs l).drop i = ptrs (l.take i ++ k :: l.drop i) := by simp [ptrs, List.map_take, List.map_drop]
theorem strs_cut (l : List ByteArray) (i j : Nat) : (strs l).take i ++ (strs l).drop j = strs (l.take i ++ l.drop j) := by simp [strs, List.map_take, List.map_drop]
theorem nums_cut (l : List Int) (i j : Nat) : (nums l).take i ++ (nums l).drop j = nums (l.take i ++ l.drop j) := by simp [nums, List.map_take, List.map_drop]
theorem ptrs_cut (l : List Nat) (i j : Nat) : (ptrs l).take i ++ (ptrs l).drop j = ptrs (l.take i ++ l.drop j) := by simp [ptrs, List.map_take, List.map_drop]
theorem ptr_one (k : Nat) : (ptr k).oneCell' = true := rfl

theorem ins_strs (v : Value) (a : Int) (i n m : Nat) (ha : a = (i : Int)) (l : List ByteArray) (x : ByteArray) (vb : Nat) (w : World) (hown : Own w 9 v (strs l)) (hn : l.length = n) (hm : m = n + 1) (hi : i ≤ n) (hb : Blk w vb 9 #[.string x])
    (hne : v.ownBlock ≠ some vb) (hbig : n ≤ 999999) :
    Calls Try.prog 31 #[v, .int .i64 a, .slice (some ⟨vb, 0, none⟩) 1 1] w (NewRow w 9 v m (strs (l.take i ++ x :: l.drop i))) := by
  have hl : (strs l).length = n := by simp [strs, hn]
  refine (insert_any_string v a i ha (strs l) (.string x) vb w hown (by rw [hl]; exact hi) hb hne (one_strs _) rfl (by rw [hl]; omega)).mono fun e w' h => h.new (strs_put l i x) ?_
  simp [strs, hn]
  omega
theorem del_strs (v : Value) (a b : Int) (i n m : Nat) (ha : a = (i : Int)) (hab : b = (i : Int) + 1) (l : List ByteArray) (w : World) (hown : Own w 9 v (strs l)) (hn : l.length = n) (hm : m = n - 1) (hi : i < n) (hbig : n ≤ 999999) :
    Calls Try.prog 40 #[v, .int .i64 a, .int .i64 b] w (NewRow w 9 v m (strs (l.take i ++ l.drop (i + 1)))) := by
  have hl : (strs l).length = n := by simp [strs, hn]
  refine (delete_any_string v a b i ha hab (strs l) w hown (by rw [hl]; exact hi) (one_strs _) (by rw [hl]; omega)).mono fun e w' h => h.new (strs_cut l i (i + 1)) ?_
  simp [strs, hn]
  omega
theorem ins_nums (v : Value) (a : Int) (i n m : Nat) (ha : a = (i : Int)) (l : List Int) (x : Int) (vb : Nat) (w : World) (hown : Own w 3 v (nums l)) (hn : l.length = n) (hm : m = n + 1) (hi : i ≤ n) (hb : Blk w vb 3 #[.int .i64 x])
    (hne : v.ownBlock ≠ some vb) (hbig : n ≤ 999999) :
    Calls Try.prog 32 #[v, .int .i64 a, .slice (some ⟨vb, 0, none⟩) 1 1] w (NewRow w 3 v m (nums (l.take i ++ x :: l.drop i))) := by
  have hl : (nums l).length = n := by simp [nums, hn]
  refine (insert_any_int v a i ha (nums l) (.int .i64 x) vb w hown (by rw [hl]; exact hi) hb hne (one_nums _) rfl (by rw [hl]; omega)).mono fun e w' h => h.new (nums_put l i x) ?_
  simp [nums, hn]
  omega
theorem del_nums (v : Value) (a b : Int) (i n m : Nat) (ha : a = (i : Int)) (hab : b = (i : Int) + 1) (l : List Int) (w : World) (hown : Own w 3 v (nums l)) (hn : l.length = n) (hm : m = n - 1) (hi : i < n) (hbig : n ≤ 999999) :
    Calls Try.prog 41 #[v, .int .i64 a, .int .i64 b] w (NewRow w 3 v m (nums (l.take i ++ l.drop (i + 1)))) := by
  have hl : (nums l).length = n := by simp [nums, hn]
  refine (delete_any_int v a b i ha hab (nums l) w hown (by rw [hl]; exact hi) (one_nums _) (by rw [hl]; omega)).mono fun e w' h => h.new (nums_cut l i (i + 1)) ?_
  simp [nums, hn]
  omega
theorem ins_ptrs (v : Value) (a : Int) (i n m : Nat) (ha : a = (i : Int)) (l : List Nat) (x : Nat) (vb : Nat) (w : World) (hown : Own w 59 v (ptrs l)) (hn : l.length = n) (hm : m = n + 1) (hi : i ≤ n) (hb : Blk w vb 59 #[ptr x])
    (hne : v.ownBlock ≠ some vb) (hbig : n ≤ 999999) :
    Calls Try.prog 36 #[v, .int .i64 a, .slice (some ⟨vb, 0, none⟩) 1 1] w (NewRow w 59 v m (ptrs (l.take i ++ x :: l.drop i))) := by
  have hl : (ptrs l).length = n := by simp [ptrs, hn]
  refine (insert_any_node v a i ha (ptrs l) (ptr x) vb w hown (by rw [hl]; exact hi) hb hne (one_ptrs _) (ptr_one _) (by rw [hl]; omega)).mono fun e w' h => h.new (ptrs_put l i x) ?_
  simp [ptrs, hn]
  omega
theorem del_ptrs (v : Value) (a b : Int) (i n m : Nat) (ha : a = (i : Int)) (hab : b = (i : Int) + 1) (l : List Nat) (w : World) (hown : Own w 59 v (ptrs l)) (hn : l.length = n) (hm : m = n - 1) (hi : i < n) (hbig : n ≤ 999999) :
    Calls Try.prog 55 #[v, .int .i64 a, .int .i64 b] w (NewRow w 59 v m (ptrs (l.take i ++ l.drop (i + 1)))) := by
  have hl : (ptrs l).length = n := by simp [ptrs, hn]
  refine (delete_any_node v a b i ha hab (ptrs l) w hown (by rw [hl]; exact hi) (one_ptrs _) (by rw [hl]; omega)).mono fun e w' h => h.new (ptrs_cut l i (i + 1)) ?_
  simp [ptrs, hn]
  omega
end Go.Proofs.Ythndplpbnfihdaa
