/-
  join, walked. Conditions: the nodes' rows stand apart; what the two children make together is given.
-/
import Derived.Test.YthndplpbnfihdaaRp
import Derived.BigRegion
set_option linter.unusedVariables false
set_option linter.unusedSimpArgs false
namespace Go.Proofs.Ythndplpbnfihdaa
open Go.RowKit

/-- What join leaves, where the two stay one. -/
def JoinLow (w : World) (d x a i n g : Nat) (v : Value) (ks : List ByteArray) (xs : List Nat) (tm : Tr d) (fpa fpb : List Nat) (w' : World) : Prop :=
  ∃ w3 fpm gk ck g' c', At w3 d a tm fpm ∧ fpm.Nodup ∧ (∀ k ∈ fpm, k ∈ fpa ∨ k ∈ fpb ∨ w.heap.size ≤ k) ∧ Chg (fun k => k ∈ fpa) w w3 ∧
    Blk w' x 62 #[.slice (some ⟨gk, 0, none⟩) (ks.length - 1) ck, .slice none 0 0, .slice (some ⟨g', 0, none⟩) (n - 1) c'] ∧
    Own w' 9 (.slice (some ⟨gk, 0, none⟩) (ks.length - 1) ck) (strs (ks.take i ++ ks.drop (i + 1))) ∧
    Own w' 59 (.slice (some ⟨g', 0, none⟩) (n - 1) c') (ptrs (xs.take (i + 1) ++ xs.drop (i + 2))) ∧
    (v.ownBlock = some gk ∨ w3.heap.size ≤ gk) ∧ (g' = g ∨ w3.heap.size ≤ g') ∧ Chg (fun k => k = x ∨ k = g ∨ v.ownBlock = some k) w3 w'

/-- What join leaves, where the two are parted anew. -/
def JoinHigh (w : World) (d x a i n g c : Nat) (v : Value) (ks : List ByteArray) (xs : List Nat) (tm : Tr d) (fpa fpb : List Nat) (w' : World) : Prop :=
  ∃ w3 b2 fp1 fp2, At w3 d a (halfT d tm).1 fp1 ∧ At w3 d b2 (halfT d tm).2.2 fp2 ∧ (fp1 ++ fp2).Nodup ∧ (∀ k ∈ fp1 ++ fp2, k ∈ fpa ∨ k ∈ fpb ∨ w.heap.size ≤ k) ∧ Chg (fun k => k ∈ fpa) w w3 ∧
    Blk w' x 62 #[v, .slice none 0 0, .slice (some ⟨g, 0, none⟩) n c] ∧ Own w' 9 v (strs (ks.set i (halfT d tm).2.1)) ∧ Own w' 59 (.slice (some ⟨g, 0, none⟩) n c) (ptrs (xs.set (i + 1) b2)) ∧
    Chg (fun k => k = x ∨ k = g ∨ v.ownBlock = some k) w3 w'

def JoinPost (w : World) (fan d x a i n g c : Nat) (v : Value) (ks : List ByteArray) (xs : List Nat) (tm : Tr d) (fpa fpb : List Nat) (e : Ending) (w' : World) : Prop :=
  e = .returned (.tuple #[]) ∧ (fan < sizeT d tm → JoinHigh w d x a i n g c v ks xs tm fpa fpb w') ∧ (¬ fan < sizeT d tm → JoinLow w d x a i n g v ks xs tm fpa fpb w')

/-- The two children's rows laid together read as the joined node. -/
def Merges (w : World) (d a n1 n2 : Nat) (v0 v1 v2 : Value) (m1 m2 : Nat) (ks : List ByteArray) (rs : List Int) (xs : List Nat) (tm : Tr d) (fpa fpb : List Nat) : Prop :=
  ∀ (w3 : World) (A0 A1 A2 : Option Addr) (l0 l1 l2 c0 c1 c2 : Nat), Blk w3 a 62 #[.slice A0 l0 c0, .slice A1 l1 c1, .slice A2 l2 c2] → Own w3 9 (.slice A0 l0 c0) (strs ks) →
    Own w3 3 (.slice A1 l1 c1) (nums rs) → Own w3 59 (.slice A2 l2 c2) (ptrs xs) → (A1 = none ↔ v1 = .slice none 0 0 ∧ m1 = 0) → (A2 = none ↔ v2 = .slice none 0 0 ∧ m2 = 0) →
    (∀ k, (Value.slice A0 l0 c0).ownBlock = some k → v0.ownBlock = some k ∨ w.heap.size ≤ k) → (∀ k, (Value.slice A1 l1 c1).ownBlock = some k → v1.ownBlock = some k ∨ w.heap.size ≤ k) →
    (∀ k, (Value.slice A2 l2 c2).ownBlock = some k → v2.ownBlock = some k ∨ w.heap.size ≤ k) → Chg (fun k => k = a ∨ v0.ownBlock = some k ∨ v1.ownBlock = some k ∨ v2.ownBlock = some k) w w3 →
    ∃ fpm, At w3 d a tm fpm ∧ fpm.Nodup ∧ ∀ k ∈ fpm, k ∈ fpa ∨ k ∈ fpb ∨ w.heap.size ≤ k

theorem wp_app {P : Program} {w : World} {o : Oper} {act : Act} {Q : Exit → Act → World → Prop} {K : Act → World → Prop} {t e : TypeId} {z : Value} {bytes : Nat} (T : SlT P t e z bytes) (s x : Operand)
    (ho : o.op = .call { callee := .builtin .append, args := #[s, x], argTypes := #[t, t] }) (A0 : Option Addr) (n c0 : Nat) (xs : List Value) (hs : act.eval s = .slice A0 n c0) (h : Own w e (.slice A0 n c0) xs) (hn : xs.length = n)
    (A : Option Addr) (m c : Nat) (hx : act.eval x = .slice A m c) (news : List Value) (hr : Reads w A m news) (h1 : OneCells news) (hbig : n + m ≤ 1000000)
    (hK : ∀ A' c' w', Own w' e (.slice A' (n + m) c') (xs ++ news) → Chg (fun k => (Value.slice A0 n c0).ownBlock = some k) w w' →
      (∀ k, (Value.slice A' (n + m) c').ownBlock = some k → (Value.slice A0 n c0).ownBlock = some k ∨ w.heap.size ≤ k) → (A' = none ↔ Value.slice A0 n c0 = .slice none 0 0 ∧ m = 0) → K (act.put o.dst (.slice A' (n + m) c')) w') : o.wp P act w K Q := by
  obtain ⟨A', c', w', hrun, h2, h3, h4, h5⟩ := run_app T h hr h1 (by rw [hn]; exact hbig) o.type c
  rw [hn] at hrun h2 h4
  refine wp_append_ok s x t t ho _ _ hs hx _ _ hrun (hK A' c' w' h2 ((Chg.of_grown h3).mono fun k _ e => e.symm) (fun k hk => ?_) h5)
  rcases h4 with h4 | h4
  · exact .inl (h4 ▸ hk)
  · rw [h4] at hk; injection hk with hk; exact .inr (by omega)

theorem reads_one {w : World} {b : Nat} {t : TypeId} {u : Value} (h : Blk w b t #[u]) : Reads w (some ⟨b, 0, none⟩) 1 [u] :=
  ⟨rfl, fun _ => ⟨_, rfl, fun j y hj => by
    cases j with
    | zero => rw [add_lit]; exact h.cell_ hj
    | succ j => simp at hj⟩⟩

/-- A store into a row. -/
theorem own_named {W : World} {e : TypeId} {g n c i : Nat} {xs : List Value} (h : Own W e (.slice (some ⟨g, 0, none⟩) n c) xs) (hi : i < xs.length) (u : Value) :
    (∃ v, W.cell? ⟨g, i, none⟩ = some v) ∧ W.frozen? ⟨g, i, none⟩ = false ∧ ∃ w', W.setCell ⟨g, i, none⟩ u = w' ∧ Own w' e (.slice (some ⟨g, 0, none⟩) n c) (xs.set i u) ∧ Chg (fun k => k = g) W w' := by
  obtain ⟨g', cur, hg, hq⟩ := h.open_ (by simp)
  injection hg with hg; injection hg with hg; subst hg
  have hb : Blk W g e cur := by
    first | exact hq.1 | exact hq.2.1 | exact hq.2.2.1 | exact hq.2.2.2.1
  refine ⟨⟨xs[i], h.cell (List.getElem?_eq_getElem hi)⟩, hb.frozen i, _, rfl, own_set h hi u, (Chg.refl (fun k => k = g) W).setCell (p := ⟨g, i, none⟩) (.inl rfl) u⟩

theorem strs_app (a b : List ByteArray) : strs a ++ strs b = strs (a ++ b) := by simp [strs]
theorem nums_app (a b : List Int) : nums a ++ nums b = nums (a ++ b) := by simp [nums]
theorem ptrs_app (a b : List Nat) : ptrs a ++ ptrs b = ptrs (a ++ b) := by simp [ptrs]

set_option maxHeartbeats 4000000 in
set_option maxRecDepth 100000 in
theorem join_walk (w : World) (fan d tr x a b g gk n c i m ck : Nat) (tn root : Value) (ks : List ByteArray) (xs : List Nat) (A0 A1 A2 B0 B1 B2 : Option Addr) (n0 n1 n2 c0 c1 c2 m0 m1 m2 e0 e1 e2 : Nat)
    (ka kb mid : List ByteArray) (ra rb : List Int) (xa xb : List Nat) (key : ByteArray) (tm : Tr d) (fpa fpb : List Nat)
    (htr : Blk w tr 64 #[.int .i64 fan, tn, root])
    (hx : Blk w x 62 #[.slice (some ⟨gk, 0, none⟩) m ck, .slice none 0 0, .slice (some ⟨g, 0, none⟩) n c]) (hk : Own w 9 (.slice (some ⟨gk, 0, none⟩) m ck) (strs ks)) (hg : Own w 59 (.slice (some ⟨g, 0, none⟩) n c) (ptrs xs))
    (ha : Blk w a 62 #[.slice A0 n0 c0, .slice A1 n1 c1, .slice A2 n2 c2]) (hb : Blk w b 62 #[.slice B0 m0 e0, .slice B1 m1 e1, .slice B2 m2 e2])
    (ha0 : Own w 9 (.slice A0 n0 c0) (strs ka)) (ha1 : Own w 3 (.slice A1 n1 c1) (nums ra)) (ha2 : Own w 59 (.slice A2 n2 c2) (ptrs xa))
    (hb0 : Own w 9 (.slice B0 m0 e0) (strs kb)) (hb1 : Own w 3 (.slice B1 m1 e1) (nums rb)) (hb2 : Own w 59 (.slice B2 m2 e2) (ptrs xb))
    (hlk : ks.length = m) (hlx : xs.length = n) (hl0 : ka.length = n0) (hl1 : ra.length = n1) (hl2 : xa.length = n2) (hm0 : kb.length = m0) (hm1 : rb.length = m1) (hm2 : xb.length = m2)
    (hmn : m + 1 = n) (hi : i + 1 < n) (hn : n ≤ 1000) (hn0 : n0 ≤ 1000) (hn1 : n1 ≤ 1000) (hn2 : n2 ≤ 1000) (hmm0 : m0 ≤ 1000) (hmm1 : m1 ≤ 1000) (hmm2 : m2 ≤ 1000) (hfan : fan ≤ 64)
    (hkey : ks[i]? = some key) (hxa : xs[i]? = some a) (hxb : xs[i + 1]? = some b)
    (hmid : (A2 = none ∧ mid = []) ∨ (A2 ≠ none ∧ mid = [key]))
    (ina : a ∈ fpa) (in0 : ∀ k, (Value.slice A0 n0 c0).ownBlock = some k → k ∈ fpa) (in1 : ∀ k, (Value.slice A1 n1 c1).ownBlock = some k → k ∈ fpa) (in2 : ∀ k, (Value.slice A2 n2 c2).ownBlock = some k → k ∈ fpa)
    (nx : x ∉ fpa) (ng : g ∉ fpa) (nk : gk ∉ fpa) (ntr : tr ∉ fpa)
    (nb : b ∉ fpa) (nb0 : ∀ k, (Value.slice B0 m0 e0).ownBlock = some k → k ∉ fpa) (nb1 : ∀ k, (Value.slice B1 m1 e1).ownBlock = some k → k ∉ fpa) (nb2 : ∀ k, (Value.slice B2 m2 e2).ownBlock = some k → k ∉ fpa)
    (hM : Merges w d a n1 n2 (.slice A0 n0 c0) (.slice A1 n1 c1) (.slice A2 n2 c2) m1 m2 (ka ++ mid ++ kb) (ra ++ rb) (xa ++ xb) tm fpa fpb)
    (hshape : Shape d tm) (h3 : fan < sizeT d tm → 3 ≤ sizeT d tm) (hsz : sizeT d tm ≤ 1000) :
    Calls Try.prog 42 #[ptr tr, ptr x, .int .i64 i] w (JoinPost w fan d x a i n g c (.slice (some ⟨gk, 0, none⟩) m ck) ks xs tm fpa fpb) := by
  obtain ⟨R, hR⟩ : ∃ R, R = JoinPost w fan d x a i n g c (.slice (some ⟨gk, 0, none⟩) m ck) ks xs tm fpa fpb := ⟨_, rfl⟩
  rw [← hR]
  have HP : Hid (∀ e w', JoinPost w fan d x a i n g c (.slice (some ⟨gk, 0, none⟩) m ck) ks xs tm fpa fpb e w' → R e w') := by
    intro e w' h; rw [hR]; exact h
  have cx0 : w.cell? ⟨x, 0, none⟩ = some (.slice (some ⟨gk, 0, none⟩) m ck) := hx.cell_ rfl
  have cx2 : w.cell? ⟨x, 2, none⟩ = some (.slice (some ⟨g, 0, none⟩) n c) := hx.cell_ rfl
  have cga : w.cell? ⟨g, i, none⟩ = some (.pointer (some ⟨a, 0, none⟩)) := hg.cell (by simp [ptrs, hxa, ptr])
  have cgb : w.cell? ⟨g, i + 1, none⟩ = some (.pointer (some ⟨b, 0, none⟩)) := hg.cell (by simp [ptrs, hxb, ptr])
  have ca2 : w.cell? ⟨a, 2, none⟩ = some (.slice A2 n2 c2) := ha.cell_ rfl
  have HX := Lib.hid hx
  have HK := Lib.hid hk
  have HG := Lib.hid hg
  have HTR := Lib.hid htr
  have HB := Lib.hid hb
  have HKEY := Lib.hid hkey
  have HLK := Lib.hid hlk
  have HLX := Lib.hid hlx
  have HA := Lib.hid ha
  have HA0 := Lib.hid ha0
  have HA1 := Lib.hid ha1
  have HA2 := Lib.hid ha2
  have HB0 := Lib.hid hb0
  have HB1 := Lib.hid hb1
  have HB2 := Lib.hid hb2
  have HL0 := Lib.hid hl0
  have HL1 := Lib.hid hl1
  have HL2 := Lib.hid hl2
  have HM0 := Lib.hid hm0
  have HM1 := Lib.hid hm1
  have HM2 := Lib.hid hm2
  have INA := Lib.hid ina
  have IN0 : Hid (∀ k, (Value.slice A0 n0 c0).ownBlock = some k → k ∈ fpa) := in0
  have IN1 : Hid (∀ k, (Value.slice A1 n1 c1).ownBlock = some k → k ∈ fpa) := in1
  have IN2 : Hid (∀ k, (Value.slice A2 n2 c2).ownBlock = some k → k ∈ fpa) := in2
  have NX := Lib.hid nx
  have NG := Lib.hid ng
  have NK := Lib.hid nk
  have NTR := Lib.hid ntr
  have NB := Lib.hid nb
  have NB0 : Hid (∀ k, (Value.slice B0 m0 e0).ownBlock = some k → k ∉ fpa) := nb0
  have NB1 : Hid (∀ k, (Value.slice B1 m1 e1).ownBlock = some k → k ∉ fpa) := nb1
  have NB2 : Hid (∀ k, (Value.slice B2 m2 e2).ownBlock = some k → k ∉ fpa) := nb2
  have HMG : Hid (Merges w d a n1 n2 (.slice A0 n0 c0) (.slice A1 n1 c1) (.slice A2 n2 c2) m1 m2 (ka ++ mid ++ kb) (ra ++ rb) (xa ++ xb) tm fpa fpb) := hM
  have HSH := Lib.hid hshape
  have HH3 := Lib.hid h3
  have HSZ := Lib.hid hsz
  have HMID := Lib.hid hmid
  have hiw : IntKind.i64.wrap ((i : Int) + 1) = (i : Int) + 1 := by rw [IntKind.wrap_i64]; omega
  have hin1 : (i : Int) + 1 < (n : Int) := by omega
  have hin0 : (i : Int) < (n : Int) := by omega
  have him : (i : Int) < (m : Int) := by omega
  have hi0 : (0 : Int) ≤ (i : Int) + 1 := by omega
  have hin2 : ((i : Int) + 1).toNat = i + 1 := by omega
  unfold ptr
  clear hx hk hg htr hb hkey hlk hlx ha ha0 ha1 ha2 hb0 hb1 hb2 hl0 hl1 hl2 hm0 hm1 hm2 ina in0 in1 in2 nx ng nk ntr nb nb0 nb1 nb2 hM hshape h3 hsz hmid hR hxa hxb
  go_enter Try.func42, Try.ntmps42
  go_wp2_with fail
  go_quiet (fail)
  clear hin2 hi0 hiw
  obtain ⟨w1, hw1, hC1⟩ : ∃ w1, w.drewN nq = w1 ∧ Chg (fun _ => False) w w1 := ⟨_, rfl, (Chg.refl _ w).drewN nq⟩
  rw [hw1]
  have ckk : ∀ W, Chg (fun _ => False) w W → W.cell? ⟨a, 0, none⟩ = some (.slice A0 n0 c0) ∧ W.cell? ⟨x, 0, none⟩ = some (.slice (some ⟨gk, 0, none⟩) m ck) ∧ W.cell? ⟨gk, i, none⟩ = some (.string key) := fun W hc =>
    ⟨(HA.out.chg hc id).cell_ rfl, (HX.out.chg hc id).cell_ rfl, (HK.out.chg hc fun _ _ h => h).cell (by simp [strs, HKEY.out])⟩
  have SP : Hid (∀ W, Chg (fun _ => False) w W → W.cell? ⟨a, 0, none⟩ = some (.slice A0 n0 c0) ∧ W.cell? ⟨x, 0, none⟩ = some (.slice (some ⟨gk, 0, none⟩) m ck) ∧ W.cell? ⟨gk, i, none⟩ = some (.string key)) := ckk
  have HC1 := Lib.hid hC1
  have ca2 : w1.cell? ⟨a, 2, none⟩ = some (.slice A2 n2 c2) := (HA.out.chg HC1.out id).cell_ rfl
  clear ckk hw1 hC1 cx0 cx2 cga cgb
  obtain ⟨Z2, hZ2⟩ : ∃ Z2, A2 = Z2 := ⟨_, rfl⟩
  rw [hZ2] at HA HA2 IN2 HMG HMID
  have HZ2 := Lib.hid hZ2
  clear hZ2
  rcases A2 with _ | aa
  focus
    have hmi : mid = [] := by
      rcases HMID.out with h | h
      · exact h.2
      · exact absurd HZ2.out.symm h.1
    obtain ⟨wz, rfl⟩ : ∃ wz, wz = w1 := ⟨_, rfl⟩
    obtain ⟨A4, hA4⟩ : ∃ A4, A0 = A4 := ⟨_, rfl⟩
    obtain ⟨l4, hl4⟩ : ∃ l4, n0 = l4 := ⟨_, rfl⟩
    obtain ⟨d4, hd4⟩ : ∃ d4, c0 = d4 := ⟨_, rfl⟩
    have HCz : Hid (Chg (fun k => k = a ∨ (Value.slice A0 n0 c0).ownBlock = some k) w wz) := HC1.out.up
    have HBz : Hid (Blk wz a 62 #[.slice A4 l4 d4, .slice A1 n1 c1, .slice Z2 n2 c2]) := by rw [← hA4, ← hl4, ← hd4]; exact HA.out.chg HC1.out id
    have HOz : Hid (Own wz 9 (.slice A4 l4 d4) (strs (ka ++ mid))) := by rw [← hA4, ← hl4, ← hd4, hmi, List.append_nil]; exact HA0.out.chg HC1.out fun _ _ h => h
    have hlz : (strs (ka ++ mid)).length = l4 := by
      have h1 := HL0.out
      rw [hmi, List.append_nil]; simp only [strs, List.length_map]; omega
    have HLz := Lib.hid hlz
    clear hlz
    have hl4b : l4 ≤ 1001 := by omega
    have HPz : Hid (∀ k, (Value.slice A4 l4 d4).ownBlock = some k → (Value.slice A0 n0 c0).ownBlock = some k ∨ w.heap.size ≤ k) := by rw [← hA4, ← hl4, ← hd4]; exact fun k hk => .inl hk
    clear hA4 hl4 hd4 hmi
    go_wp2_with fail
    clear ca2 HC1 SP
  rotate_left
  focus
    have hmi : mid = [key] := by
      rcases HMID.out with h | h
      · exact absurd (HZ2.out.trans h.1) (by simp)
      · exact h.2
    have HMI := Lib.hid hmi
    clear hmi
    go_wp2_with fail
    obtain ⟨w2, hw2, hC2⟩ := drew_named w1
    have hC0 : Chg (fun _ => False) w w2 := HC1.out.trans hC2
    have hS := SP.out w2 hC0
    refine wp_region_till (s := 13) (S := (fun W => W.cell? ⟨a, 0, none⟩ = some (.slice A0 n0 c0) ∧ W.cell? ⟨x, 0, none⟩ = some (.slice (some ⟨gk, 0, none⟩) m ck) ∧ W.cell? ⟨gk, i, none⟩ = some (.string key))) (by kernel_rfl) ?_
    rw [hw2]
    clear hw2 hC2
    apply till_take0 (i := 0) (d := some 28)
    case hi => exact rfl
    case hd => exact rfl
    case hchk => kernel_rfl
    case hS => exact (fun _ => hS)
    case hy => apply yields_plain; exact rfl; intro w _; go_simp <;> with_reducible rfl
    case hQ => exact fun _ _ _ h => h
    simp only [Act.put, List.setIfInBounds_toArray, List.set_cons_zero, List.set_cons_succ]
    apply till_take0 (i := 1) (d := some 29)
    case hi => exact rfl
    case hd => exact rfl
    case hchk => kernel_rfl
    case hS => exact (fun _ => hS)
    case hy => apply yields_plain; exact rfl; intro w _; go_simp <;> with_reducible rfl
    case hQ => exact fun _ _ _ h => h
    simp only [Act.put, List.setIfInBounds_toArray, List.set_cons_zero, List.set_cons_succ]
    apply till_take0 (i := 2) (d := some 30)
    case hi => exact rfl
    case hd => exact rfl
    case hchk => kernel_rfl
    case hS => exact (fun _ => hS)
    case hy => apply yields_plain; exact rfl; intro w _; go_simp <;> with_reducible rfl
    case hQ => exact fun _ _ _ h => h
    simp only [Act.put, List.setIfInBounds_toArray, List.set_cons_zero, List.set_cons_succ]
    apply till_take0 (i := 3) (d := some 31)
    case hi => exact rfl
    case hd => exact rfl
    case hchk => kernel_rfl
    case hS => exact (fun _ => hS)
    case hy => apply yields_plain; exact rfl; intro w _; go_simp <;> with_reducible rfl
    case hQ => exact fun _ _ _ h => h
    simp only [Act.put, List.setIfInBounds_toArray, List.set_cons_zero, List.set_cons_succ]
    apply till_take0 (i := 5) (d := some 33)
    case hi => exact rfl
    case hd => exact rfl
    case hchk => kernel_rfl
    case hS => exact (fun _ => hS)
    case hy => apply yields_plain; exact rfl; intro w _; go_simp <;> with_reducible rfl
    case hQ => exact fun _ _ _ h => h
    simp only [Act.put, List.setIfInBounds_toArray, List.set_cons_zero, List.set_cons_succ]
    apply till_take0 (i := 6) (d := some 34)
    case hi => exact rfl
    case hd => exact rfl
    case hchk => kernel_rfl
    case hS => exact (fun _ => hS)
    case hy => apply yields_plain; exact rfl; intro w _; go_simp <;> with_reducible rfl
    case hQ => exact fun _ _ _ h => h
    simp only [Act.put, List.setIfInBounds_toArray, List.set_cons_zero, List.set_cons_succ]
    apply till_take0 (i := 7) (d := some 35)
    case hi => exact rfl
    case hd => exact rfl
    case hchk => kernel_rfl
    case hS => exact (fun _ => hS)
    case hy => apply yields_plain; exact rfl; intro w _; go_simp <;> with_reducible rfl
    case hQ => exact fun _ _ _ h => h
    simp only [Act.put, List.setIfInBounds_toArray, List.set_cons_zero, List.set_cons_succ]
    apply till_take0 (i := 9) (d := some 37)
    case hi => exact rfl
    case hd => exact rfl
    case hchk => kernel_rfl
    case hS => exact (fun _ => hS)
    case hy => apply yields_plain; exact rfl; intro w _; go_simp <;> with_reducible rfl
    case hQ => exact fun _ _ _ h => h
    simp only [Act.put, List.setIfInBounds_toArray, List.set_cons_zero, List.set_cons_succ]
    apply till_take (i := 4) (d := some 32) [13, 4]
    case hi => exact rfl
    case hd => exact rfl
    case hchk => kernel_rfl
    case hS => exact hS
    case hy => apply yields_plain; exact rfl; intro w hSw; (try dsimp only at hSw); go_split_ands; go_simp <;> with_reducible rfl
    case hQ => exact fun _ _ _ h => h
    simp only [Act.put, List.setIfInBounds_toArray, List.set_cons_zero, List.set_cons_succ]
    apply till_take (i := 8) (d := some 36) [13, 12, 11, 10, 8]
    case hi => exact rfl
    case hd => exact rfl
    case hchk => kernel_rfl
    case hS => exact hS
    case hy => apply yields_plain; exact rfl; intro w hSw; (try dsimp only at hSw); go_split_ands; go_simp <;> with_reducible rfl
    case hQ => exact fun _ _ _ h => h
    simp only [Act.put, List.setIfInBounds_toArray, List.set_cons_zero, List.set_cons_succ]
    apply till_take0 (i := 10) (d := some 38)
    case hi => exact rfl
    case hd => exact rfl
    case hchk => kernel_rfl
    case hS => exact (fun _ => hS)
    case hy => apply yields_plain; exact rfl; intro w _; go_simp <;> with_reducible rfl
    case hQ => exact fun _ _ _ h => h
    simp only [Act.put, List.setIfInBounds_toArray, List.set_cons_zero, List.set_cons_succ]
    apply till_take (i := 11) (d := some 39) [13, 12, 11]
    case hi => exact rfl
    case hd => exact rfl
    case hchk => kernel_rfl
    case hS => exact hS
    case hy => apply yields_plain; exact rfl; intro w hSw; (try dsimp only at hSw); go_split_ands; go_simp <;> with_reducible rfl
    case hQ => exact fun _ _ _ h => h
    simp only [Act.put, List.setIfInBounds_toArray, List.set_cons_zero, List.set_cons_succ]
    refine till_all (rs := [12]) (by kernel_rfl) (by simp) (mem_more (till_op (i := 12) (o := ⟨some 40, _, _, _, _, _⟩) rfl rfl (fun K hK => ?_)) (mem_none))
    go_simp
    obtain ⟨wx, yb, hwx, hyb, hBx, hCx, -⟩ := alloc_named w2 #[.string key] 9
    rw [hwx, hyb]
    have hC0 := hC0.trans hCx
    clear hCx hwx hyb
    refine hK.out _ _ (fun _ => ?_) (fun hS2 => ?_)
    · exact SP.out _ hC0
    have hS3 := hS2 (by kernel_rfl)
    clear hK K hS hS2
    have hS := hS3
    clear hS3
    try simp only [Act.put, List.setIfInBounds_toArray, List.set_cons_zero, List.set_cons_succ]
    refine till_all (rs := [13]) (by kernel_rfl) (by simp) (mem_more (till_op (i := 13) (o := ⟨some 41, _, _, _, _, _⟩) rfl rfl (fun K hK => ?_)) (mem_none))
    refine wp_app slt_string (.tmp 32) (.tmp 40) rfl A0 n0 c0 (strs ka) rfl (HA0.out.chg hC0 fun _ _ h => h) (by have h1 := HL0.out; simp only [strs, List.length_map]; omega) (some ⟨yb, 0, none⟩) 1 1 rfl [.string key] (reads_one hBx) (by intro u hu; simp at hu; subst hu; rfl) (by omega) ?_
    rintro A4 d4 w4 hO4 hG4 hob4 hnl4
    simp only [Act.put, List.setIfInBounds_toArray, List.set_cons_zero, List.set_cons_succ]
    have hO4 : Own w4 9 (.slice A4 (n0 + 1) d4) (strs (ka ++ mid)) := by rw [HMI.out]; simpa [strs] using hO4
    have hob4 : ∀ k, (Value.slice A4 (n0 + 1) d4).ownBlock = some k → (Value.slice A0 n0 c0).ownBlock = some k ∨ w.heap.size ≤ k := fun k hk => (hob4 k hk).imp id (fun h => by have := hC0.size; omega)
    have hCC : Chg (fun k => k = a ∨ (Value.slice A0 n0 c0).ownBlock = some k) w w4 := hC0.up.trans (hG4.mono fun k _ h => .inr h)
    have hBa := (HA.out.chg hC0 id).chg hG4 (HA0.out.ne_blk HA.out (by decide))
    clear hC0 hG4 hnl4 hBx
    refine hK.out _ _ (fun h => by cases (show true = false from h)) (fun _ => ?_)
    clear hK K hS
    try simp only [Act.put, List.setIfInBounds_toArray, List.set_cons_zero, List.set_cons_succ]
    apply till_take0 (i := 14) (d := some 42)
    case hi => exact rfl
    case hd => exact rfl
    case hchk => kernel_rfl
    case hS => exact (fun h => by cases (show true = false from h))
    case hy => apply yields_plain; exact rfl; intro w _; go_simp <;> with_reducible rfl
    case hQ => exact fun _ _ _ h => h
    simp only [Act.put, List.setIfInBounds_toArray, List.set_cons_zero, List.set_cons_succ]
    apply till_take0 (i := 15) (d := some 43)
    case hi => exact rfl
    case hd => exact rfl
    case hchk => kernel_rfl
    case hS => exact (fun h => by cases (show true = false from h))
    case hy => apply yields_plain; exact rfl; intro w _; go_simp <;> with_reducible rfl
    case hQ => exact fun _ _ _ h => h
    simp only [Act.put, List.setIfInBounds_toArray, List.set_cons_zero, List.set_cons_succ]
    refine till_all (rs := [16]) (by kernel_rfl) (by simp) (mem_more (till_op (i := 16) (o := ⟨none, _, _, _, _, _⟩) rfl rfl (fun K hK => ?_)) (mem_none))
    have hbc : (w4).cell? ⟨a, 0, none⟩ = some _ := hBa.cell_ rfl
    have hbf := hBa.frozen 0
    go_simp
    clear hbc hbf
    obtain ⟨w5, hw5, hBz, hC5⟩ := set_named hBa 0 (.slice A4 (n0 + 1) d4)
    rw [hw5]
    have hO4 := hO4.past hBa (by decide) hC5
    have hCC := hCC.trans (hC5.mono fun k _ h => .inl h)
    clear hBa hw5 hC5
    refine hK.out _ _ (fun h => by cases (show true = false from h)) (fun _ => ?_)
    clear hK K
    try simp only [Act.put, List.setIfInBounds_toArray, List.set_cons_zero, List.set_cons_succ]
    refine till_done (by kernel_rfl) ?_
    obtain ⟨wz, rfl⟩ : ∃ wz, wz = w5 := ⟨_, rfl⟩
    have HCz := Lib.hid hCC
    have hlz : (strs (ka ++ mid)).length = n0 + 1 := by
      have h1 := HL0.out
      rw [HMI.out]; simp only [strs, List.length_map, List.length_append, List.length_cons, List.length_nil]; omega
    have HLz := Lib.hid hlz
    clear hlz
    obtain ⟨l4, hl4⟩ : ∃ l4, n0 + 1 = l4 := ⟨_, rfl⟩
    rw [hl4] at hO4 hob4 HLz hBz
    have HBz : Hid (Blk wz a 62 #[.slice A4 l4 d4, .slice A1 n1 c1, .slice Z2 n2 c2]) := hBz
    have HOz := Lib.hid hO4
    have hl4b : l4 ≤ 1001 := by omega
    have HPz : Hid (∀ k, (Value.slice A4 l4 d4).ownBlock = some k → (Value.slice A0 n0 c0).ownBlock = some k ∨ w.heap.size ≤ k) := hob4
    clear hl4 hO4 hob4 hBz hCC ca2 HC1 SP HMI
    go_wp2_with fail
  all_goals
    have na0 : ∀ k, (Value.slice A0 n0 c0).ownBlock = some k → k ∈ fpa := IN0.out
    have HBb := Lib.hid (HB.out.chg HCz.out (fun h => h.elim (fun e => NB.out (e ▸ INA.out)) (fun e => NB.out (IN0.out _ e))))
    have HO1 := Lib.hid (HA1.out.chg HCz.out (fun k hk h => h.elim (fun e => HA1.out.ne_blk HA.out (by decide) (e ▸ hk)) (fun e => HA1.out.ne_own HA0.out (by decide) hk e)))
    have HO2 := Lib.hid (HA2.out.chg HCz.out (fun k hk h => h.elim (fun e => HA2.out.ne_blk HA.out (by decide) (e ▸ hk)) (fun e => HA2.out.ne_own HA0.out (by decide) hk e)))
    have HP0 := Lib.hid (HB0.out.chg HCz.out (fun k hk h => NB0.out k hk (h.elim (fun e => e ▸ INA.out) (fun e => IN0.out _ e))))
    have HP1 := Lib.hid (HB1.out.chg HCz.out (fun k hk h => NB1.out k hk (h.elim (fun e => e ▸ INA.out) (fun e => IN0.out _ e))))
    have HP2 := Lib.hid (HB2.out.chg HCz.out (fun k hk h => NB2.out k hk (h.elim (fun e => e ▸ INA.out) (fun e => IN0.out _ e))))
    have SQ : Hid (∀ W, Chg (fun k => (Value.slice A4 l4 d4).ownBlock = some k ∨ (Value.slice A1 n1 c1).ownBlock = some k) wz W →
        W.cell? ⟨a, 0, none⟩ = some (.slice A4 l4 d4) ∧ W.cell? ⟨a, 1, none⟩ = some (.slice A1 n1 c1) ∧ W.cell? ⟨a, 2, none⟩ = some (.slice Z2 n2 c2) ∧
        W.cell? ⟨b, 0, none⟩ = some (.slice B0 m0 e0) ∧ W.cell? ⟨b, 1, none⟩ = some (.slice B1 m1 e1) ∧ W.cell? ⟨b, 2, none⟩ = some (.slice B2 m2 e2)) := by
      intro W hc
      have h1 := HBz.out.chg hc (fun h => h.elim (HOz.out.ne_blk HBz.out (by decide)) (HO1.out.ne_blk HBz.out (by decide)))
      have h2 := HBb.out.chg hc (fun h => h.elim (HOz.out.ne_blk HBb.out (by decide)) (HO1.out.ne_blk HBb.out (by decide)))
      exact ⟨h1.cell_ rfl, h1.cell_ rfl, h1.cell_ rfl, h2.cell_ rfl, h2.cell_ rfl, h2.cell_ rfl⟩
    clear na0
    obtain ⟨w6, hw6, hC6⟩ := drew_named wz
    have hC0 : Chg (fun _ => False) wz w6 := hC6
    have hS := SQ.out w6 hC0.up
    refine wp_region_till (s := 29) (S := (fun W => W.cell? ⟨a, 0, none⟩ = some (.slice A4 l4 d4) ∧ W.cell? ⟨a, 1, none⟩ = some (.slice A1 n1 c1) ∧ W.cell? ⟨a, 2, none⟩ = some (.slice Z2 n2 c2) ∧ W.cell? ⟨b, 0, none⟩ = some (.slice B0 m0 e0) ∧ W.cell? ⟨b, 1, none⟩ = some (.slice B1 m1 e1) ∧ W.cell? ⟨b, 2, none⟩ = some (.slice B2 m2 e2))) (by kernel_rfl) ?_
    rw [hw6]
    clear hw6 hC6
    apply till_take0 (i := 0) (d := some 44)
    case hi => exact rfl
    case hd => exact rfl
    case hchk => kernel_rfl
    case hS => exact (fun _ => hS)
    case hy => apply yields_plain; exact rfl; intro w _; go_simp <;> with_reducible rfl
    case hQ => exact fun _ _ _ h => h
    simp only [Act.put, List.setIfInBounds_toArray, List.set_cons_zero, List.set_cons_succ]
    apply till_take0 (i := 1) (d := some 45)
    case hi => exact rfl
    case hd => exact rfl
    case hchk => kernel_rfl
    case hS => exact (fun _ => hS)
    case hy => apply yields_plain; exact rfl; intro w _; go_simp <;> with_reducible rfl
    case hQ => exact fun _ _ _ h => h
    simp only [Act.put, List.setIfInBounds_toArray, List.set_cons_zero, List.set_cons_succ]
    apply till_take0 (i := 2) (d := some 46)
    case hi => exact rfl
    case hd => exact rfl
    case hchk => kernel_rfl
    case hS => exact (fun _ => hS)
    case hy => apply yields_plain; exact rfl; intro w _; go_simp <;> with_reducible rfl
    case hQ => exact fun _ _ _ h => h
    simp only [Act.put, List.setIfInBounds_toArray, List.set_cons_zero, List.set_cons_succ]
    apply till_take0 (i := 3) (d := some 47)
    case hi => exact rfl
    case hd => exact rfl
    case hchk => kernel_rfl
    case hS => exact (fun _ => hS)
    case hy => apply yields_plain; exact rfl; intro w _; go_simp <;> with_reducible rfl
    case hQ => exact fun _ _ _ h => h
    simp only [Act.put, List.setIfInBounds_toArray, List.set_cons_zero, List.set_cons_succ]
    apply till_take0 (i := 4) (d := some 48)
    case hi => exact rfl
    case hd => exact rfl
    case hchk => kernel_rfl
    case hS => exact (fun _ => hS)
    case hy => apply yields_plain; exact rfl; intro w _; go_simp <;> with_reducible rfl
    case hQ => exact fun _ _ _ h => h
    simp only [Act.put, List.setIfInBounds_toArray, List.set_cons_zero, List.set_cons_succ]
    apply till_take0 (i := 5) (d := some 49)
    case hi => exact rfl
    case hd => exact rfl
    case hchk => kernel_rfl
    case hS => exact (fun _ => hS)
    case hy => apply yields_plain; exact rfl; intro w _; go_simp <;> with_reducible rfl
    case hQ => exact fun _ _ _ h => h
    simp only [Act.put, List.setIfInBounds_toArray, List.set_cons_zero, List.set_cons_succ]
    apply till_take0 (i := 7) (d := some 51)
    case hi => exact rfl
    case hd => exact rfl
    case hchk => kernel_rfl
    case hS => exact (fun _ => hS)
    case hy => apply yields_plain; exact rfl; intro w _; go_simp <;> with_reducible rfl
    case hQ => exact fun _ _ _ h => h
    simp only [Act.put, List.setIfInBounds_toArray, List.set_cons_zero, List.set_cons_succ]
    apply till_take0 (i := 8) (d := some 52)
    case hi => exact rfl
    case hd => exact rfl
    case hchk => kernel_rfl
    case hS => exact (fun _ => hS)
    case hy => apply yields_plain; exact rfl; intro w _; go_simp <;> with_reducible rfl
    case hQ => exact fun _ _ _ h => h
    simp only [Act.put, List.setIfInBounds_toArray, List.set_cons_zero, List.set_cons_succ]
    apply till_take0 (i := 9) (d := some 53)
    case hi => exact rfl
    case hd => exact rfl
    case hchk => kernel_rfl
    case hS => exact (fun _ => hS)
    case hy => apply yields_plain; exact rfl; intro w _; go_simp <;> with_reducible rfl
    case hQ => exact fun _ _ _ h => h
    simp only [Act.put, List.setIfInBounds_toArray, List.set_cons_zero, List.set_cons_succ]
    apply till_take0 (i := 12) (d := some 56)
    case hi => exact rfl
    case hd => exact rfl
    case hchk => kernel_rfl
    case hS => exact (fun _ => hS)
    case hy => apply yields_plain; exact rfl; intro w _; go_simp <;> with_reducible rfl
    case hQ => exact fun _ _ _ h => h
    simp only [Act.put, List.setIfInBounds_toArray, List.set_cons_zero, List.set_cons_succ]
    apply till_take0 (i := 13) (d := some 57)
    case hi => exact rfl
    case hd => exact rfl
    case hchk => kernel_rfl
    case hS => exact (fun _ => hS)
    case hy => apply yields_plain; exact rfl; intro w _; go_simp <;> with_reducible rfl
    case hQ => exact fun _ _ _ h => h
    simp only [Act.put, List.setIfInBounds_toArray, List.set_cons_zero, List.set_cons_succ]
    apply till_take0 (i := 14) (d := some 58)
    case hi => exact rfl
    case hd => exact rfl
    case hchk => kernel_rfl
    case hS => exact (fun _ => hS)
    case hy => apply yields_plain; exact rfl; intro w _; go_simp <;> with_reducible rfl
    case hQ => exact fun _ _ _ h => h
    simp only [Act.put, List.setIfInBounds_toArray, List.set_cons_zero, List.set_cons_succ]
    apply till_take0 (i := 16) (d := some 60)
    case hi => exact rfl
    case hd => exact rfl
    case hchk => kernel_rfl
    case hS => exact (fun _ => hS)
    case hy => apply yields_plain; exact rfl; intro w _; go_simp <;> with_reducible rfl
    case hQ => exact fun _ _ _ h => h
    simp only [Act.put, List.setIfInBounds_toArray, List.set_cons_zero, List.set_cons_succ]
    apply till_take0 (i := 17) (d := some 61)
    case hi => exact rfl
    case hd => exact rfl
    case hchk => kernel_rfl
    case hS => exact (fun _ => hS)
    case hy => apply yields_plain; exact rfl; intro w _; go_simp <;> with_reducible rfl
    case hQ => exact fun _ _ _ h => h
    simp only [Act.put, List.setIfInBounds_toArray, List.set_cons_zero, List.set_cons_succ]
    apply till_take0 (i := 18) (d := some 62)
    case hi => exact rfl
    case hd => exact rfl
    case hchk => kernel_rfl
    case hS => exact (fun _ => hS)
    case hy => apply yields_plain; exact rfl; intro w _; go_simp <;> with_reducible rfl
    case hQ => exact fun _ _ _ h => h
    simp only [Act.put, List.setIfInBounds_toArray, List.set_cons_zero, List.set_cons_succ]
    apply till_take0 (i := 21) (d := some 65)
    case hi => exact rfl
    case hd => exact rfl
    case hchk => kernel_rfl
    case hS => exact (fun _ => hS)
    case hy => apply yields_plain; exact rfl; intro w _; go_simp <;> with_reducible rfl
    case hQ => exact fun _ _ _ h => h
    simp only [Act.put, List.setIfInBounds_toArray, List.set_cons_zero, List.set_cons_succ]
    apply till_take0 (i := 22) (d := some 66)
    case hi => exact rfl
    case hd => exact rfl
    case hchk => kernel_rfl
    case hS => exact (fun _ => hS)
    case hy => apply yields_plain; exact rfl; intro w _; go_simp <;> with_reducible rfl
    case hQ => exact fun _ _ _ h => h
    simp only [Act.put, List.setIfInBounds_toArray, List.set_cons_zero, List.set_cons_succ]
    apply till_take0 (i := 23) (d := some 67)
    case hi => exact rfl
    case hd => exact rfl
    case hchk => kernel_rfl
    case hS => exact (fun _ => hS)
    case hy => apply yields_plain; exact rfl; intro w _; go_simp <;> with_reducible rfl
    case hQ => exact fun _ _ _ h => h
    simp only [Act.put, List.setIfInBounds_toArray, List.set_cons_zero, List.set_cons_succ]
    apply till_take0 (i := 25) (d := some 69)
    case hi => exact rfl
    case hd => exact rfl
    case hchk => kernel_rfl
    case hS => exact (fun _ => hS)
    case hy => apply yields_plain; exact rfl; intro w _; go_simp <;> with_reducible rfl
    case hQ => exact fun _ _ _ h => h
    simp only [Act.put, List.setIfInBounds_toArray, List.set_cons_zero, List.set_cons_succ]
    apply till_take0 (i := 26) (d := some 70)
    case hi => exact rfl
    case hd => exact rfl
    case hchk => kernel_rfl
    case hS => exact (fun _ => hS)
    case hy => apply yields_plain; exact rfl; intro w _; go_simp <;> with_reducible rfl
    case hQ => exact fun _ _ _ h => h
    simp only [Act.put, List.setIfInBounds_toArray, List.set_cons_zero, List.set_cons_succ]
    apply till_take0 (i := 27) (d := some 71)
    case hi => exact rfl
    case hd => exact rfl
    case hchk => kernel_rfl
    case hS => exact (fun _ => hS)
    case hy => apply yields_plain; exact rfl; intro w _; go_simp <;> with_reducible rfl
    case hQ => exact fun _ _ _ h => h
    simp only [Act.put, List.setIfInBounds_toArray, List.set_cons_zero, List.set_cons_succ]
    apply till_take (i := 6) (d := some 50) [29, 20, 11, 6]
    case hi => exact rfl
    case hd => exact rfl
    case hchk => kernel_rfl
    case hS => exact hS
    case hy => apply yields_plain; exact rfl; intro w hSw; (try dsimp only at hSw); go_split_ands; go_simp <;> with_reducible rfl
    case hQ => exact fun _ _ _ h => h
    simp only [Act.put, List.setIfInBounds_toArray, List.set_cons_zero, List.set_cons_succ]
    apply till_take (i := 10) (d := some 54) [29, 20, 11, 10]
    case hi => exact rfl
    case hd => exact rfl
    case hchk => kernel_rfl
    case hS => exact hS
    case hy => apply yields_plain; exact rfl; intro w hSw; (try dsimp only at hSw); go_split_ands; go_simp <;> with_reducible rfl
    case hQ => exact fun _ _ _ h => h
    simp only [Act.put, List.setIfInBounds_toArray, List.set_cons_zero, List.set_cons_succ]
    apply till_take (i := 15) (d := some 59) [29, 20, 15]
    case hi => exact rfl
    case hd => exact rfl
    case hchk => kernel_rfl
    case hS => exact hS
    case hy => apply yields_plain; exact rfl; intro w hSw; (try dsimp only at hSw); go_split_ands; go_simp <;> with_reducible rfl
    case hQ => exact fun _ _ _ h => h
    simp only [Act.put, List.setIfInBounds_toArray, List.set_cons_zero, List.set_cons_succ]
    apply till_take (i := 19) (d := some 63) [29, 20, 19]
    case hi => exact rfl
    case hd => exact rfl
    case hchk => kernel_rfl
    case hS => exact hS
    case hy => apply yields_plain; exact rfl; intro w hSw; (try dsimp only at hSw); go_split_ands; go_simp <;> with_reducible rfl
    case hQ => exact fun _ _ _ h => h
    simp only [Act.put, List.setIfInBounds_toArray, List.set_cons_zero, List.set_cons_succ]
    apply till_take (i := 24) (d := some 68) [29, 24]
    case hi => exact rfl
    case hd => exact rfl
    case hchk => kernel_rfl
    case hS => exact hS
    case hy => apply yields_plain; exact rfl; intro w hSw; (try dsimp only at hSw); go_split_ands; go_simp <;> with_reducible rfl
    case hQ => exact fun _ _ _ h => h
    simp only [Act.put, List.setIfInBounds_toArray, List.set_cons_zero, List.set_cons_succ]
    apply till_take (i := 28) (d := some 72) [29, 28]
    case hi => exact rfl
    case hd => exact rfl
    case hchk => kernel_rfl
    case hS => exact hS
    case hy => apply yields_plain; exact rfl; intro w hSw; (try dsimp only at hSw); go_split_ands; go_simp <;> with_reducible rfl
    case hQ => exact fun _ _ _ h => h
    simp only [Act.put, List.setIfInBounds_toArray, List.set_cons_zero, List.set_cons_succ]
    refine till_all (rs := [11]) (by kernel_rfl) (by simp) (mem_more (till_op (i := 11) (o := ⟨some 55, _, _, _, _, _⟩) rfl rfl (fun K hK => ?_)) (mem_none))
    refine wp_app slt_string (.tmp 50) (.tmp 54) rfl A4 l4 d4 (strs (ka ++ mid)) rfl (HOz.out.chg hC0 fun _ _ h => h) HLz.out B0 m0 e0 rfl (strs kb) (Reads.of_own (HP0.out.chg hC0 fun _ _ h => h)) (one_strs _) (by omega) ?_
    rintro A5 d5 w7 hO5 hG5 hob5 -
    simp only [Act.put, List.setIfInBounds_toArray, List.set_cons_zero, List.set_cons_succ]
    have hCk : Chg (fun k => (Value.slice A4 l4 d4).ownBlock = some k) wz w7 := hC0.up.trans hG5
    have hob5 : ∀ k, (Value.slice A5 (l4 + m0) d5).ownBlock = some k → (Value.slice A0 n0 c0).ownBlock = some k ∨ w.heap.size ≤ k := fun k hk => (hob5 k hk).elim (HPz.out k) (fun h => by have h1 := hC0.size; have h2 := HCz.out.size; exact .inr (by omega))
    rw [strs_app] at hO5
    clear hC0 hG5
    refine hK.out _ _ (fun _ => ?_) (fun hS2 => ?_)
    · first | exact SQ.out _ (hCk.mono fun _ _ h => .inl h) | exact SQ.out _ hCk2
    have hS3 := hS2 (by kernel_rfl)
    clear hK K hS hS2
    have hS := hS3
    clear hS3
    try simp only [Act.put, List.setIfInBounds_toArray, List.set_cons_zero, List.set_cons_succ]
    refine till_all (rs := [20]) (by kernel_rfl) (by simp) (mem_more (till_op (i := 20) (o := ⟨some 64, _, _, _, _, _⟩) rfl rfl (fun K hK => ?_)) (mem_none))
    have hO1 := HO1.out.chg hCk (fun k hk e => HO1.out.ne_own HOz.out (by decide) hk e)
    refine wp_app slt_int (.tmp 59) (.tmp 63) rfl A1 n1 c1 (nums ra) rfl hO1 (by have h1 := HL1.out; simp only [nums, List.length_map]; omega) B1 m1 e1 rfl (nums rb) (Reads.of_own (HP1.out.chg hCk fun k hk e => HP1.out.ne_own HOz.out (by decide) hk e)) (one_nums _) (by omega) ?_
    rintro A6 d6 w8 hO6 hG6 hob6 hnl6
    simp only [Act.put, List.setIfInBounds_toArray, List.set_cons_zero, List.set_cons_succ]
    have hO5 := hO5.chg hG6 (fun k hk e => hO5.ne_own hO1 (by decide) hk e)
    have hCk2 : Chg (fun k => (Value.slice A4 l4 d4).ownBlock = some k ∨ (Value.slice A1 n1 c1).ownBlock = some k) wz w8 := (hCk.mono fun _ _ h => .inl h).trans (hG6.mono fun _ _ h => .inr h)
    have hob6 : ∀ k, (Value.slice A6 (n1 + m1) d6).ownBlock = some k → (Value.slice A1 n1 c1).ownBlock = some k ∨ w.heap.size ≤ k := fun k hk => (hob6 k hk).imp id (fun h => by have h1 := hCk.size; have h2 := HCz.out.size; omega)
    rw [nums_app] at hO6
    clear hCk hG6 hO1
    refine hK.out _ _ (fun _ => ?_) (fun hS2 => ?_)
    · first | exact SQ.out _ (hCk.mono fun _ _ h => .inl h) | exact SQ.out _ hCk2
    have hS3 := hS2 (by kernel_rfl)
    clear hK K hS hS2
    have hS := hS3
    clear hS3
    try simp only [Act.put, List.setIfInBounds_toArray, List.set_cons_zero, List.set_cons_succ]
    refine till_all (rs := [29]) (by kernel_rfl) (by simp) (mem_more (till_op (i := 29) (o := ⟨some 73, _, _, _, _, _⟩) rfl rfl (fun K hK => ?_)) (mem_none))
    have hno : ∀ (E : TypeId) (v : Value) (xs : List Value), E ≠ 9 → E ≠ 3 → Own wz E v xs → Own w8 E v xs := fun E v xs hE1 hE2 h => h.chg hCk2 (fun k hk e => e.elim (fun e => h.ne_own HOz.out hE1 hk e) (fun e => h.ne_own HO1.out hE2 hk e))
    have hO2 := hno _ _ _ (by decide) (by decide) HO2.out
    refine wp_app slt_node (.tmp 68) (.tmp 72) rfl Z2 n2 c2 (ptrs xa) rfl hO2 (by have h1 := HL2.out; simp only [ptrs, List.length_map]; omega) B2 m2 e2 rfl (ptrs xb) (Reads.of_own (hno _ _ _ (by decide) (by decide) HP2.out)) (one_ptrs _) (by omega) ?_
    rintro A7 d7 w9 hO7 hG7 hob7 hnl7
    simp only [Act.put, List.setIfInBounds_toArray, List.set_cons_zero, List.set_cons_succ]
    have hO5 := hO5.chg hG7 (fun k hk e => hO5.ne_own hO2 (by decide) hk e)
    have hO6 := hO6.chg hG7 (fun k hk e => hO6.ne_own hO2 (by decide) hk e)
    have hob7 : ∀ k, (Value.slice A7 (n2 + m2) d7).ownBlock = some k → (Value.slice Z2 n2 c2).ownBlock = some k ∨ w.heap.size ≤ k := fun k hk => (hob7 k hk).imp id (fun h => by have h1 := hCk2.size; have h2 := HCz.out.size; omega)
    rw [ptrs_app] at hO7
    have hBa := (HBz.out.chg hCk2 (fun h => h.elim (HOz.out.ne_blk HBz.out (by decide)) (HO1.out.ne_blk HBz.out (by decide)))).chg hG7 (hO2.ne_blk (HBz.out.chg hCk2 (fun h => h.elim (HOz.out.ne_blk HBz.out (by decide)) (HO1.out.ne_blk HBz.out (by decide)))) (by decide))
    have hCC : Chg (fun k => k = a ∨ (Value.slice A0 n0 c0).ownBlock = some k ∨ (Value.slice A1 n1 c1).ownBlock = some k ∨ (Value.slice Z2 n2 c2).ownBlock = some k) w w9 :=
      ((HCz.out.mono fun k _ h => h.imp id .inl).comp hCk2 fun k hk h => by
        rcases h with h | h
        · rcases HPz.out k h with h | h
          · exact .inr (.inl h)
          · omega
        · exact .inr (.inr (.inl h))).trans (hG7.mono fun k _ h => .inr (.inr (.inr h)))
    clear hCk2 hG7 hO2 hno
    refine hK.out _ _ (fun h => by cases (show true = false from h)) (fun _ => ?_)
    clear hK K hS
    try simp only [Act.put, List.setIfInBounds_toArray, List.set_cons_zero, List.set_cons_succ]
    apply till_take0 (i := 30) (d := some 74)
    case hi => exact rfl
    case hd => exact rfl
    case hchk => kernel_rfl
    case hS => exact (fun h => by cases (show true = false from h))
    case hy => apply yields_plain; exact rfl; intro w _; go_simp <;> with_reducible rfl
    case hQ => exact fun _ _ _ h => h
    simp only [Act.put, List.setIfInBounds_toArray, List.set_cons_zero, List.set_cons_succ]
    apply till_take0 (i := 31) (d := some 75)
    case hi => exact rfl
    case hd => exact rfl
    case hchk => kernel_rfl
    case hS => exact (fun h => by cases (show true = false from h))
    case hy => apply yields_plain; exact rfl; intro w _; go_simp <;> with_reducible rfl
    case hQ => exact fun _ _ _ h => h
    simp only [Act.put, List.setIfInBounds_toArray, List.set_cons_zero, List.set_cons_succ]
    refine till_all (rs := [32]) (by kernel_rfl) (by simp) (mem_more (till_op (i := 32) (o := ⟨none, _, _, _, _, _⟩) rfl rfl (fun K hK => ?_)) (mem_none))
    have hbc : (w9).cell? ⟨a, 0, none⟩ = some _ := hBa.cell_ rfl
    have hbf := hBa.frozen 0
    go_simp
    clear hbc hbf
    obtain ⟨w10, hw1, hB1, hC1⟩ := set_named hBa 0 (.slice A5 (l4 + m0) d5)
    rw [hw1]
    have hO5 := hO5.past hBa (by decide) hC1
    have hO6 := hO6.past hBa (by decide) hC1
    have hO7 := hO7.past hBa (by decide) hC1
    have hCC := hCC.trans (hC1.mono fun k _ h => .inl h)
    have hBa := hB1
    clear hB1 hw1 hC1
    refine hK.out _ _ (fun h => by cases (show true = false from h)) (fun _ => ?_)
    clear hK K
    try simp only [Act.put, List.setIfInBounds_toArray, List.set_cons_zero, List.set_cons_succ]
    apply till_take0 (i := 33) (d := some 76)
    case hi => exact rfl
    case hd => exact rfl
    case hchk => kernel_rfl
    case hS => exact (fun h => by cases (show true = false from h))
    case hy => apply yields_plain; exact rfl; intro w _; go_simp <;> with_reducible rfl
    case hQ => exact fun _ _ _ h => h
    simp only [Act.put, List.setIfInBounds_toArray, List.set_cons_zero, List.set_cons_succ]
    apply till_take0 (i := 34) (d := some 77)
    case hi => exact rfl
    case hd => exact rfl
    case hchk => kernel_rfl
    case hS => exact (fun h => by cases (show true = false from h))
    case hy => apply yields_plain; exact rfl; intro w _; go_simp <;> with_reducible rfl
    case hQ => exact fun _ _ _ h => h
    simp only [Act.put, List.setIfInBounds_toArray, List.set_cons_zero, List.set_cons_succ]
    refine till_all (rs := [35]) (by kernel_rfl) (by simp) (mem_more (till_op (i := 35) (o := ⟨none, _, _, _, _, _⟩) rfl rfl (fun K hK => ?_)) (mem_none))
    have hbc : (w10).cell? ⟨a, 1, none⟩ = some _ := hBa.cell_ rfl
    have hbf := hBa.frozen 1
    go_simp
    clear hbc hbf
    obtain ⟨w11, hw1, hB1, hC1⟩ := set_named hBa 1 (.slice A6 (n1 + m1) d6)
    rw [hw1]
    have hO5 := hO5.past hBa (by decide) hC1
    have hO6 := hO6.past hBa (by decide) hC1
    have hO7 := hO7.past hBa (by decide) hC1
    have hCC := hCC.trans (hC1.mono fun k _ h => .inl h)
    have hBa := hB1
    clear hB1 hw1 hC1
    refine hK.out _ _ (fun h => by cases (show true = false from h)) (fun _ => ?_)
    clear hK K
    try simp only [Act.put, List.setIfInBounds_toArray, List.set_cons_zero, List.set_cons_succ]
    apply till_take0 (i := 36) (d := some 78)
    case hi => exact rfl
    case hd => exact rfl
    case hchk => kernel_rfl
    case hS => exact (fun h => by cases (show true = false from h))
    case hy => apply yields_plain; exact rfl; intro w _; go_simp <;> with_reducible rfl
    case hQ => exact fun _ _ _ h => h
    simp only [Act.put, List.setIfInBounds_toArray, List.set_cons_zero, List.set_cons_succ]
    apply till_take0 (i := 37) (d := some 79)
    case hi => exact rfl
    case hd => exact rfl
    case hchk => kernel_rfl
    case hS => exact (fun h => by cases (show true = false from h))
    case hy => apply yields_plain; exact rfl; intro w _; go_simp <;> with_reducible rfl
    case hQ => exact fun _ _ _ h => h
    simp only [Act.put, List.setIfInBounds_toArray, List.set_cons_zero, List.set_cons_succ]
    refine till_all (rs := [38]) (by kernel_rfl) (by simp) (mem_more (till_op (i := 38) (o := ⟨none, _, _, _, _, _⟩) rfl rfl (fun K hK => ?_)) (mem_none))
    have hbc : (w11).cell? ⟨a, 2, none⟩ = some _ := hBa.cell_ rfl
    have hbf := hBa.frozen 2
    go_simp
    clear hbc hbf
    obtain ⟨w12, hw1, hB1, hC1⟩ := set_named hBa 2 (.slice A7 (n2 + m2) d7)
    rw [hw1]
    have hO5 := hO5.past hBa (by decide) hC1
    have hO6 := hO6.past hBa (by decide) hC1
    have hO7 := hO7.past hBa (by decide) hC1
    have hCC := hCC.trans (hC1.mono fun k _ h => .inl h)
    have hBa := hB1
    clear hB1 hw1 hC1
    refine hK.out _ _ (fun h => by cases (show true = false from h)) (fun _ => ?_)
    clear hK K
    try simp only [Act.put, List.setIfInBounds_toArray, List.set_cons_zero, List.set_cons_succ]
    refine till_done (by kernel_rfl) ?_
    obtain ⟨fpm, hAm, hndm, hsub⟩ := HMG.out w12 A5 A6 A7 (l4 + m0) (n1 + m1) (n2 + m2) d5 d6 d7 hBa hO5 hO6 hO7 hnl6 hnl7 hob5 hob6 hob7 hCC
    clear hBa hO5 hO6 hO7 hnl6 hnl7 hob5 hob6 hob7 HMG SQ HO1 HO2 HP0 HP1 HP2 HBb HOz HBz HLz HPz HA HA0 HA1 HA2 HB0 HB1 HB2
    have hCA : Chg (fun k => k ∈ fpa) w w12 := hCC.mono fun k _ h => by
      rcases h with rfl | h | h | h
      · exact INA.out
      · exact IN0.out k h
      · exact IN1.out k h
      · exact IN2.out k h
    clear hCC
    have HAm := Lib.hid hAm
    have HNDm := Lib.hid hndm
    have HSUB : Hid (∀ k ∈ fpm, k ∈ fpa ∨ k ∈ fpb ∨ w.heap.size ≤ k) := hsub
    have HCA := Lib.hid hCA
    have cfan : w12.cell? ⟨tr, 0, none⟩ = some (.int .i64 fan) := (HTR.out.chg hCA NTR.out).cell_ rfl
    clear hAm hndm hsub hCA
    go_wp2_with fail
    obtain ⟨sz, hsz⟩ : ∃ sz, sizeT d tm = sz := ⟨_, rfl⟩
    have HSZQ : Hid (∀ q', Calls Try.prog 34 #[.pointer (some ⟨a, 0, none⟩)] (w12.drewN q') (fun e w' => e = .returned (.int .i64 (sz : Nat)) ∧ ∃ m, w' = (w12.drewN q').drewN m)) := fun q' => by
      refine (size_at (HAm.out.drewN q')).mono ?_
      rintro e w' ⟨h1, rfl⟩
      rw [hsz] at h1
      exact ⟨h1, 0, rfl⟩
    have HSZE := Lib.hid hsz
    clear hsz
    have hiw : IntKind.i64.wrap ((i : Int) + 1) = (i : Int) + 1 := by rw [IntKind.wrap_i64]; omega
    have hiw2 : IntKind.i64.wrap ((i : Int) + 2) = (i : Int) + 2 := by rw [IntKind.wrap_i64]; omega
    have hi0 : (0 : Int) ≤ (i : Int) + 1 := by omega
    have hin2 : ((i : Int) + 1).toNat = i + 1 := by omega
    by_cases hhi : (fan : Int) < (sz : Int)
    · go_quiet ((go_at_call 34; exact Calls.quiet_of (HSZQ.out _)))
      obtain ⟨w13, hw13, hC13⟩ : ∃ w13, w12.drewN nq = w13 ∧ Chg (fun _ => False) w12 w13 := ⟨_, rfl, (Chg.refl _ w12).drewN nq⟩
      rw [hw13]
      have HC13 : Hid (Chg (fun k => k ∈ fpa) w w13) := HCA.out.trans hC13.up
      have HA13 := Lib.hid (HAm.out.chg hC13 fun _ _ h => h)
      have SX : Hid (∀ W, Chg (fun k => k ∈ fpa) w W → W.cell? ⟨x, 0, none⟩ = some (.slice (some ⟨gk, 0, none⟩) m ck) ∧ W.cell? ⟨x, 2, none⟩ = some (.slice (some ⟨g, 0, none⟩) n c)) := fun W hc =>
        ⟨(HX.out.chg hc NX.out).cell_ rfl, (HX.out.chg hc NX.out).cell_ rfl⟩
      clear cfan hw13 hC13
      go_wp2_with fail
      obtain ⟨w14, hw14, hC14⟩ := drew_named w13
      have hC0 : Chg (fun k => k ∈ fpa) w w14 := HC13.out.trans hC14.up
      have hA0 := HA13.out.chg hC14 fun _ _ h => h
      have hz0 : w.heap.size ≤ w14.heap.size := hC0.size
      have hS := SX.out w14 hC0
      refine wp_region_till (s := 17) (S := (fun W => W.cell? ⟨x, 0, none⟩ = some (.slice (some ⟨gk, 0, none⟩) m ck) ∧ W.cell? ⟨x, 2, none⟩ = some (.slice (some ⟨g, 0, none⟩) n c))) (by kernel_rfl) ?_
      rw [hw14]
      clear hw14 hC14
      apply till_take0 (i := 0) (d := some 88)
      case hi => exact rfl
      case hd => exact rfl
      case hchk => kernel_rfl
      case hS => exact (fun _ => hS)
      case hy => apply yields_plain; exact rfl; intro w _; go_simp <;> with_reducible rfl
      case hQ => exact fun _ _ _ h => h
      simp only [Act.put, List.setIfInBounds_toArray, List.set_cons_zero, List.set_cons_succ]
      apply till_take0 (i := 1) (d := some 89)
      case hi => exact rfl
      case hd => exact rfl
      case hchk => kernel_rfl
      case hS => exact (fun _ => hS)
      case hy => apply yields_plain; exact rfl; intro w _; go_simp <;> with_reducible rfl
      case hQ => exact fun _ _ _ h => h
      simp only [Act.put, List.setIfInBounds_toArray, List.set_cons_zero, List.set_cons_succ]
      apply till_take0 (i := 2) (d := some 90)
      case hi => exact rfl
      case hd => exact rfl
      case hchk => kernel_rfl
      case hS => exact (fun _ => hS)
      case hy => apply yields_plain; exact rfl; intro w _; go_simp <;> with_reducible rfl
      case hQ => exact fun _ _ _ h => h
      simp only [Act.put, List.setIfInBounds_toArray, List.set_cons_zero, List.set_cons_succ]
      apply till_take0 (i := 4) (d := some 92)
      case hi => exact rfl
      case hd => exact rfl
      case hchk => kernel_rfl
      case hS => exact (fun _ => hS)
      case hy => apply yields_plain; exact rfl; intro w _; go_simp <;> with_reducible rfl
      case hQ => exact fun _ _ _ h => h
      simp only [Act.put, List.setIfInBounds_toArray, List.set_cons_zero, List.set_cons_succ]
      apply till_take0 (i := 5) (d := some 93)
      case hi => exact rfl
      case hd => exact rfl
      case hchk => kernel_rfl
      case hS => exact (fun _ => hS)
      case hy => apply yields_plain; exact rfl; intro w _; go_simp <;> with_reducible rfl
      case hQ => exact fun _ _ _ h => h
      simp only [Act.put, List.setIfInBounds_toArray, List.set_cons_zero, List.set_cons_succ]
      apply till_take0 (i := 6) (d := some 94)
      case hi => exact rfl
      case hd => exact rfl
      case hchk => kernel_rfl
      case hS => exact (fun _ => hS)
      case hy => apply yields_plain; exact rfl; intro w _; go_simp <;> with_reducible rfl
      case hQ => exact fun _ _ _ h => h
      simp only [Act.put, List.setIfInBounds_toArray, List.set_cons_zero, List.set_cons_succ]
      apply till_take0 (i := 7) (d := some 95)
      case hi => exact rfl
      case hd => exact rfl
      case hchk => kernel_rfl
      case hS => exact (fun _ => hS)
      case hy => apply yields_plain; exact rfl; intro w _; go_simp <;> with_reducible rfl
      case hQ => exact fun _ _ _ h => h
      simp only [Act.put, List.setIfInBounds_toArray, List.set_cons_zero, List.set_cons_succ]
      apply till_take0 (i := 8) (d := some 96)
      case hi => exact rfl
      case hd => exact rfl
      case hchk => kernel_rfl
      case hS => exact (fun _ => hS)
      case hy => apply yields_plain; exact rfl; intro w _; go_simp <;> with_reducible rfl
      case hQ => exact fun _ _ _ h => h
      simp only [Act.put, List.setIfInBounds_toArray, List.set_cons_zero, List.set_cons_succ]
      apply till_take0 (i := 10) (d := some 98)
      case hi => exact rfl
      case hd => exact rfl
      case hchk => kernel_rfl
      case hS => exact (fun _ => hS)
      case hy => apply yields_plain; exact rfl; intro w _; go_simp <;> with_reducible rfl
      case hQ => exact fun _ _ _ h => h
      simp only [Act.put, List.setIfInBounds_toArray, List.set_cons_zero, List.set_cons_succ]
      apply till_take0 (i := 11) (d := some 99)
      case hi => exact rfl
      case hd => exact rfl
      case hchk => kernel_rfl
      case hS => exact (fun _ => hS)
      case hy => apply yields_plain; exact rfl; intro w _; go_simp <;> with_reducible rfl
      case hQ => exact fun _ _ _ h => h
      simp only [Act.put, List.setIfInBounds_toArray, List.set_cons_zero, List.set_cons_succ]
      apply till_take (i := 3) (d := some 91) [17, 3]
      case hi => exact rfl
      case hd => exact rfl
      case hchk => kernel_rfl
      case hS => exact hS
      case hy => apply yields_plain; exact rfl; intro w hSw; (try dsimp only at hSw); go_split_ands; go_simp <;> with_reducible rfl
      case hQ => exact fun _ _ _ h => h
      simp only [Act.put, List.setIfInBounds_toArray, List.set_cons_zero, List.set_cons_succ]
      apply till_take (i := 9) (d := some 97) [17, 9]
      case hi => exact rfl
      case hd => exact rfl
      case hchk => kernel_rfl
      case hS => exact hS
      case hy => apply yields_plain; exact rfl; intro w hSw; (try dsimp only at hSw); go_split_ands; go_simp <;> with_reducible rfl
      case hQ => exact fun _ _ _ h => h
      simp only [Act.put, List.setIfInBounds_toArray, List.set_cons_zero, List.set_cons_succ]
      refine till_all (rs := [12]) (by kernel_rfl) (by simp) (mem_more (till_op (i := 12) (o := ⟨some 100, _, _, _, _, _⟩) rfl rfl (fun K hK => ?_)) (mem_none))
      go_simp
      go_at_call 35
      refine (half_at hA0 HNDm.out HSH.out (by have h1 := HH3.out; have h2 := HSZE.out; exact h1 (by rw [h2]; omega)) (Nat.le_trans HSZ.out (by omega))).mono ?_
      rintro e w15 ⟨⟨b2, fp1, fp2, rfl, hA1, hA2, hnd2, hs1, hs2, hb2, hC3⟩⟩
      obtain ⟨mv, hmv⟩ : ∃ mv, (halfT d tm).2.1 = mv := ⟨_, rfl⟩
      rw [hmv, show ptr b2 = .pointer (some ⟨b2, 0, none⟩) from rfl]
      have hC0 : Chg (fun k => k ∈ fpa) w w15 := hC0.trans (hC3.mono fun k _ e => by rw [e]; exact INA.out)
      have hs2 : ∀ k ∈ fp2, k ∈ fpm ∨ w.heap.size ≤ k := fun k hk => (hs2 k hk).imp id (fun h => by omega)
      have hOK := HK.out.chg hC0 (fun k hk h => NK.out (by simp [Value.ownBlock] at hk; rw [hk]; exact h))
      have hOG := HG.out.chg hC0 (fun k hk h => NG.out (by simp [Value.ownBlock] at hk; rw [hk]; exact h))
      have hBX := HX.out.chg hC0 NX.out
      clear hC3 hA0 hb2 hz0
      refine hK.out _ _ (fun _ => ?_) (fun hS2 => ?_)
      · exact SX.out _ hC0
      have hS3 := hS2 (by kernel_rfl)
      clear hK K hS hS2
      have hS := hS3
      clear hS3
      try simp only [Act.put, List.setIfInBounds_toArray, List.set_cons_zero, List.set_cons_succ]
      apply till_take0 (i := 13) (d := some 87)
      case hi => exact rfl
      case hd => exact rfl
      case hchk => kernel_rfl
      case hS => exact (fun _ => hS)
      case hy => apply yields_plain; exact rfl; intro w _; go_simp <;> with_reducible rfl
      case hQ => exact fun _ _ _ h => h
      simp only [Act.put, List.setIfInBounds_toArray, List.set_cons_zero, List.set_cons_succ]
      apply till_take0 (i := 14) (d := some 101)
      case hi => exact rfl
      case hd => exact rfl
      case hchk => kernel_rfl
      case hS => exact (fun _ => hS)
      case hy => apply yields_plain; exact rfl; intro w _; go_simp <;> with_reducible rfl
      case hQ => exact fun _ _ _ h => h
      simp only [Act.put, List.setIfInBounds_toArray, List.set_cons_zero, List.set_cons_succ]
      apply till_take0 (i := 15) (d := some 102)
      case hi => exact rfl
      case hd => exact rfl
      case hchk => kernel_rfl
      case hS => exact (fun _ => hS)
      case hy => apply yields_plain; exact rfl; intro w _; go_simp <;> with_reducible rfl
      case hQ => exact fun _ _ _ h => h
      simp only [Act.put, List.setIfInBounds_toArray, List.set_cons_zero, List.set_cons_succ]
      apply till_take0 (i := 16) (d := some 103)
      case hi => exact rfl
      case hd => exact rfl
      case hchk => kernel_rfl
      case hS => exact (fun _ => hS)
      case hy => apply yields_plain; exact rfl; intro w _; go_simp <;> with_reducible rfl
      case hQ => exact fun _ _ _ h => h
      simp only [Act.put, List.setIfInBounds_toArray, List.set_cons_zero, List.set_cons_succ]
      refine till_all (rs := [17]) (by kernel_rfl) (by simp) (mem_more (till_op (i := 17) (o := ⟨none, _, _, _, _, _⟩) rfl rfl (fun K hK => ?_)) (mem_none))
      obtain ⟨⟨ov, hcl⟩, hfr, w16, hw1, hOG1, hC1⟩ := own_named (i := i + 1) hOG (by rw [ptrs, List.length_map, HLX.out]; omega) (.pointer (some ⟨b2, 0, none⟩))
      go_simp
      try rw [hw1]
      have hOK := hOK.chg hC1 (fun k hk e => hOK.ne_own hOG (by decide) hk (by rw [e]; rfl))
      have hBX := hBX.chg hC1 (fun e => hOG.ne_blk hBX (by decide) (by rw [e]; rfl))
      have hCC : Chg (fun k => k = x ∨ k = g ∨ (Value.slice (some ⟨gk, 0, none⟩) m ck).ownBlock = some k) w15 w16 := hC1.mono fun k _ h => .inr (.inl h)
      have hOG := hOG1
      clear hOG1 hcl hfr hw1 hC1
      refine hK.out _ _ (fun h => by cases (show true = false from h)) (fun _ => ?_)
      clear hK K hS
      try simp only [Act.put, List.setIfInBounds_toArray, List.set_cons_zero, List.set_cons_succ]
      apply till_take0 (i := 18) (d := some 104)
      case hi => exact rfl
      case hd => exact rfl
      case hchk => kernel_rfl
      case hS => exact (fun h => by cases (show true = false from h))
      case hy => apply yields_plain; exact rfl; intro w _; go_simp <;> with_reducible rfl
      case hQ => exact fun _ _ _ h => h
      simp only [Act.put, List.setIfInBounds_toArray, List.set_cons_zero, List.set_cons_succ]
      refine till_all (rs := [19]) (by kernel_rfl) (by simp) (mem_more (till_op (i := 19) (o := ⟨none, _, _, _, _, _⟩) rfl rfl (fun K hK => ?_)) (mem_none))
      obtain ⟨⟨ov2, hcl⟩, hfr, w17, hw1, hOK1, hC1⟩ := own_named (i := i) hOK (by rw [strs, List.length_map, HLK.out]; omega) (.string mv)
      go_simp
      try rw [hw1]
      have hOG := hOG.chg hC1 (fun k hk e => hOG.ne_own hOK (by decide) hk (by rw [e]; rfl))
      have hBX := hBX.chg hC1 (fun e => hOK.ne_blk hBX (by decide) (by rw [e]; rfl))
      have hCC := hCC.trans (hC1.mono fun k _ h => .inr (.inr (by rw [h]; rfl)))
      have hOK := hOK1
      clear hOK1 hcl hfr hw1 hC1
      refine hK.out _ _ (fun h => by cases (show true = false from h)) (fun _ => ?_)
      clear hK K
      try simp only [Act.put, List.setIfInBounds_toArray, List.set_cons_zero, List.set_cons_succ]
      refine till_done (by kernel_rfl) ?_
      go_wp2_with fail
      refine bodyPost_ret (results_none rfl _ _ _) rfl ?_
      refine HP.out _ _ ⟨rfl, fun _ => ⟨w15, b2, fp1, fp2, hA1, hA2, hnd2, ?_, hC0, hBX, ?_, ?_, hCC⟩, fun h => absurd ?_ h⟩
      case refine_1 =>
        intro k hk
        rcases List.mem_append.1 hk with h | h
        · exact HSUB.out k (hs1 k h)
        · exact (hs2 k h).elim (HSUB.out k) (fun h => .inr (.inr h))
      case refine_2 => rw [hmv]; simpa [strs, List.map_set] using hOK
      case refine_3 => simpa [ptrs, List.map_set, ptr] using hOG
      case refine_4 => have h2 := HSZE.out; rw [h2]; omega
    · go_quiet ((go_at_call 34; exact Calls.quiet_of (HSZQ.out _)))
      obtain ⟨w13, hw13, hC13⟩ : ∃ w13, w12.drewN nq = w13 ∧ Chg (fun _ => False) w12 w13 := ⟨_, rfl, (Chg.refl _ w12).drewN nq⟩
      rw [hw13]
      have HC13 : Hid (Chg (fun k => k ∈ fpa) w w13) := HCA.out.trans hC13.up
      have HA13 := Lib.hid (HAm.out.chg hC13 fun _ _ h => h)
      have HK13 := Lib.hid (HK.out.chg HC13.out (fun k hk h => NK.out (by simp [Value.ownBlock] at hk; rw [hk]; exact h)))
      have HG13 := Lib.hid (HG.out.chg HC13.out (fun k hk h => NG.out (by simp [Value.ownBlock] at hk; rw [hk]; exact h)))
      have HX13 := Lib.hid (HX.out.chg HC13.out NX.out)
      have SX : Hid (∀ W, Chg (fun k => k = g) w13 W → W.cell? ⟨x, 0, none⟩ = some (.slice (some ⟨gk, 0, none⟩) m ck) ∧ W.cell? ⟨x, 2, none⟩ = some (.slice (some ⟨g, 0, none⟩) n c)) := fun W hc => by
        have h1 := HX13.out.chg hc (fun e => HG13.out.ne_blk HX13.out (by decide) (by rw [e]; rfl))
        exact ⟨h1.cell_ rfl, h1.cell_ rfl⟩
      clear cfan hw13 hC13
      go_wp2_with fail
      obtain ⟨w14, hw14, hC14⟩ := drew_named w13
      have hC0 : Chg (fun _ => False) w13 w14 := hC14
      have hS := SX.out w14 hC0.up
      refine wp_region_till (s := 18) (S := (fun W => W.cell? ⟨x, 0, none⟩ = some (.slice (some ⟨gk, 0, none⟩) m ck) ∧ W.cell? ⟨x, 2, none⟩ = some (.slice (some ⟨g, 0, none⟩) n c))) (by kernel_rfl) ?_
      rw [hw14]
      clear hw14 hC14
      apply till_take0 (i := 0) (d := some 105)
      case hi => exact rfl
      case hd => exact rfl
      case hchk => kernel_rfl
      case hS => exact (fun _ => hS)
      case hy => apply yields_plain; exact rfl; intro w _; go_simp <;> with_reducible rfl
      case hQ => exact fun _ _ _ h => h
      simp only [Act.put, List.setIfInBounds_toArray, List.set_cons_zero, List.set_cons_succ]
      apply till_take0 (i := 1) (d := some 106)
      case hi => exact rfl
      case hd => exact rfl
      case hchk => kernel_rfl
      case hS => exact (fun _ => hS)
      case hy => apply yields_plain; exact rfl; intro w _; go_simp <;> with_reducible rfl
      case hQ => exact fun _ _ _ h => h
      simp only [Act.put, List.setIfInBounds_toArray, List.set_cons_zero, List.set_cons_succ]
      apply till_take0 (i := 2) (d := some 107)
      case hi => exact rfl
      case hd => exact rfl
      case hchk => kernel_rfl
      case hS => exact (fun _ => hS)
      case hy => apply yields_plain; exact rfl; intro w _; go_simp <;> with_reducible rfl
      case hQ => exact fun _ _ _ h => h
      simp only [Act.put, List.setIfInBounds_toArray, List.set_cons_zero, List.set_cons_succ]
      apply till_take0 (i := 3) (d := some 108)
      case hi => exact rfl
      case hd => exact rfl
      case hchk => kernel_rfl
      case hS => exact (fun _ => hS)
      case hy => apply yields_plain; exact rfl; intro w _; go_simp <;> with_reducible rfl
      case hQ => exact fun _ _ _ h => h
      simp only [Act.put, List.setIfInBounds_toArray, List.set_cons_zero, List.set_cons_succ]
      apply till_take0 (i := 4) (d := some 109)
      case hi => exact rfl
      case hd => exact rfl
      case hchk => kernel_rfl
      case hS => exact (fun _ => hS)
      case hy => apply yields_plain; exact rfl; intro w _; go_simp <;> with_reducible rfl
      case hQ => exact fun _ _ _ h => h
      simp only [Act.put, List.setIfInBounds_toArray, List.set_cons_zero, List.set_cons_succ]
      apply till_take0 (i := 6) (d := some 111)
      case hi => exact rfl
      case hd => exact rfl
      case hchk => kernel_rfl
      case hS => exact (fun _ => hS)
      case hy => apply yields_plain; exact rfl; intro w _; go_simp <;> with_reducible rfl
      case hQ => exact fun _ _ _ h => h
      simp only [Act.put, List.setIfInBounds_toArray, List.set_cons_zero, List.set_cons_succ]
      apply till_take0 (i := 7) (d := some 112)
      case hi => exact rfl
      case hd => exact rfl
      case hchk => kernel_rfl
      case hS => exact (fun _ => hS)
      case hy => apply yields_plain; exact rfl; intro w _; go_simp <;> with_reducible rfl
      case hQ => exact fun _ _ _ h => h
      simp only [Act.put, List.setIfInBounds_toArray, List.set_cons_zero, List.set_cons_succ]
      apply till_take0 (i := 8) (d := some 113)
      case hi => exact rfl
      case hd => exact rfl
      case hchk => kernel_rfl
      case hS => exact (fun _ => hS)
      case hy => apply yields_plain; exact rfl; intro w _; go_simp <;> with_reducible rfl
      case hQ => exact fun _ _ _ h => h
      simp only [Act.put, List.setIfInBounds_toArray, List.set_cons_zero, List.set_cons_succ]
      apply till_take0 (i := 9) (d := some 114)
      case hi => exact rfl
      case hd => exact rfl
      case hchk => kernel_rfl
      case hS => exact (fun _ => hS)
      case hy => apply yields_plain; exact rfl; intro w _; go_simp <;> with_reducible rfl
      case hQ => exact fun _ _ _ h => h
      simp only [Act.put, List.setIfInBounds_toArray, List.set_cons_zero, List.set_cons_succ]
      apply till_take0 (i := 11) (d := some 116)
      case hi => exact rfl
      case hd => exact rfl
      case hchk => kernel_rfl
      case hS => exact (fun _ => hS)
      case hy => apply yields_plain; exact rfl; intro w _; go_simp <;> with_reducible rfl
      case hQ => exact fun _ _ _ h => h
      simp only [Act.put, List.setIfInBounds_toArray, List.set_cons_zero, List.set_cons_succ]
      apply till_take0 (i := 12) (d := some 117)
      case hi => exact rfl
      case hd => exact rfl
      case hchk => kernel_rfl
      case hS => exact (fun _ => hS)
      case hy => apply yields_plain; exact rfl; intro w _; go_simp <;> with_reducible rfl
      case hQ => exact fun _ _ _ h => h
      simp only [Act.put, List.setIfInBounds_toArray, List.set_cons_zero, List.set_cons_succ]
      apply till_take0 (i := 13) (d := some 118)
      case hi => exact rfl
      case hd => exact rfl
      case hchk => kernel_rfl
      case hS => exact (fun _ => hS)
      case hy => apply yields_plain; exact rfl; intro w _; go_simp <;> with_reducible rfl
      case hQ => exact fun _ _ _ h => h
      simp only [Act.put, List.setIfInBounds_toArray, List.set_cons_zero, List.set_cons_succ]
      apply till_take0 (i := 15) (d := some 120)
      case hi => exact rfl
      case hd => exact rfl
      case hchk => kernel_rfl
      case hS => exact (fun _ => hS)
      case hy => apply yields_plain; exact rfl; intro w _; go_simp <;> with_reducible rfl
      case hQ => exact fun _ _ _ h => h
      simp only [Act.put, List.setIfInBounds_toArray, List.set_cons_zero, List.set_cons_succ]
      apply till_take0 (i := 16) (d := some 121)
      case hi => exact rfl
      case hd => exact rfl
      case hchk => kernel_rfl
      case hS => exact (fun _ => hS)
      case hy => apply yields_plain; exact rfl; intro w _; go_simp <;> with_reducible rfl
      case hQ => exact fun _ _ _ h => h
      simp only [Act.put, List.setIfInBounds_toArray, List.set_cons_zero, List.set_cons_succ]
      apply till_take0 (i := 17) (d := some 122)
      case hi => exact rfl
      case hd => exact rfl
      case hchk => kernel_rfl
      case hS => exact (fun _ => hS)
      case hy => apply yields_plain; exact rfl; intro w _; go_simp <;> with_reducible rfl
      case hQ => exact fun _ _ _ h => h
      simp only [Act.put, List.setIfInBounds_toArray, List.set_cons_zero, List.set_cons_succ]
      apply till_take (i := 5) (d := some 110) [18, 10, 5]
      case hi => exact rfl
      case hd => exact rfl
      case hchk => kernel_rfl
      case hS => exact hS
      case hy => apply yields_plain; exact rfl; intro w hSw; (try dsimp only at hSw); go_split_ands; go_simp <;> with_reducible rfl
      case hQ => exact fun _ _ _ h => h
      simp only [Act.put, List.setIfInBounds_toArray, List.set_cons_zero, List.set_cons_succ]
      apply till_take (i := 14) (d := some 119) [18, 14]
      case hi => exact rfl
      case hd => exact rfl
      case hchk => kernel_rfl
      case hS => exact hS
      case hy => apply yields_plain; exact rfl; intro w hSw; (try dsimp only at hSw); go_split_ands; go_simp <;> with_reducible rfl
      case hQ => exact fun _ _ _ h => h
      simp only [Act.put, List.setIfInBounds_toArray, List.set_cons_zero, List.set_cons_succ]
      refine till_all (rs := [10]) (by kernel_rfl) (by simp) (mem_more (till_op (i := 10) (o := ⟨some 115, _, _, _, _, _⟩) rfl rfl (fun K hK => ?_)) (mem_none))
      go_simp
      go_at_call 55
      have hO := HG13.out.chg hC0 (fun _ _ h => h)
      refine (del_ptrs _ _ _ (i + 1) n (n - 1) (by omega) (by omega) xs w14 hO HLX.out rfl (by omega) (by omega)).mono ?_
      rintro e w15 ⟨g', c', rfl, hOg, hgg, hCk⟩
      have hgg : g' = g ∨ w13.heap.size ≤ g' := hgg.imp (fun h => by simp [Value.ownBlock] at h; exact h.symm) (fun h => by have h1 := hC0.size; omega)
      have hCk : Chg (fun k => k = g) w13 w15 := hC0.up.trans (hCk.mono fun k _ h => by simp [Value.ownBlock] at h; exact h.symm)
      clear hC0 hO
      refine hK.out _ _ (fun _ => ?_) (fun hS2 => ?_)
      · exact SX.out _ hCk
      have hS3 := hS2 (by kernel_rfl)
      clear hK K hS hS2
      have hS := hS3
      clear hS3
      try simp only [Act.put, List.setIfInBounds_toArray, List.set_cons_zero, List.set_cons_succ]
      refine till_all (rs := [18]) (by kernel_rfl) (by simp) (mem_more (till_op (i := 18) (o := ⟨some 123, _, _, _, _, _⟩) rfl rfl (fun K hK => ?_)) (mem_none))
      go_simp
      go_at_call 40
      have hO := HK13.out.chg hCk (fun k hk e => HK13.out.ne_own HG13.out (by decide) hk (by rw [e]; rfl))
      refine (del_strs _ _ _ i m (m - 1) rfl (by omega) ks w15 hO HLK.out rfl (by omega) (by omega)).mono ?_
      rintro e w16 ⟨gk', ck', rfl, hOk, hgk, hCr⟩
      have hgk : (Value.slice (some ⟨gk, 0, none⟩) m ck).ownBlock = some gk' ∨ w13.heap.size ≤ gk' := hgk.imp id (fun h => by have h1 := hCk.size; omega)
      have hOg := hOg.chg hCr (fun k hk e => hOg.ne_own hO (by decide) hk e)
      have hBX1 := HX13.out.chg hCk (fun e => HG13.out.ne_blk HX13.out (by decide) (by rw [e]; rfl))
      have hBX := hBX1.chg hCr (hO.ne_blk hBX1 (by decide))
      have hCC : Chg (fun k => k = x ∨ k = g ∨ (Value.slice (some ⟨gk, 0, none⟩) m ck).ownBlock = some k) w13 w16 :=
        (hCk.mono fun k _ h => .inr (.inl h)).trans (hCr.mono fun k _ h => .inr (.inr h))
      clear hCr hCk hO hBX1
      refine hK.out _ _ (fun h => by cases (show true = false from h)) (fun _ => ?_)
      clear hK K hS
      try simp only [Act.put, List.setIfInBounds_toArray, List.set_cons_zero, List.set_cons_succ]
      apply till_take0 (i := 19) (d := some 124)
      case hi => exact rfl
      case hd => exact rfl
      case hchk => kernel_rfl
      case hS => exact (fun h => by cases (show true = false from h))
      case hy => apply yields_plain; exact rfl; intro w _; go_simp <;> with_reducible rfl
      case hQ => exact fun _ _ _ h => h
      simp only [Act.put, List.setIfInBounds_toArray, List.set_cons_zero, List.set_cons_succ]
      apply till_take0 (i := 20) (d := some 125)
      case hi => exact rfl
      case hd => exact rfl
      case hchk => kernel_rfl
      case hS => exact (fun h => by cases (show true = false from h))
      case hy => apply yields_plain; exact rfl; intro w _; go_simp <;> with_reducible rfl
      case hQ => exact fun _ _ _ h => h
      simp only [Act.put, List.setIfInBounds_toArray, List.set_cons_zero, List.set_cons_succ]
      refine till_all (rs := [21]) (by kernel_rfl) (by simp) (mem_more (till_op (i := 21) (o := ⟨none, _, _, _, _, _⟩) rfl rfl (fun K hK => ?_)) (mem_none))
      have hbc : (w16).cell? ⟨x, 2, none⟩ = some _ := hBX.cell_ rfl
      have hbf := hBX.frozen 2
      go_simp
      clear hbc hbf
      obtain ⟨w17, hw1, hB1, hC1⟩ := set_named hBX 2 (.slice (some ⟨g', 0, none⟩) (n - 1) c')
      rw [hw1]
      have hOg := hOg.past hBX (by decide) hC1
      have hOk := hOk.past hBX (by decide) hC1
      have hCC := hCC.trans (hC1.mono fun k _ h => .inl h)
      have hBX := hB1
      clear hB1 hw1 hC1
      refine hK.out _ _ (fun h => by cases (show true = false from h)) (fun _ => ?_)
      clear hK K
      try simp only [Act.put, List.setIfInBounds_toArray, List.set_cons_zero, List.set_cons_succ]
      apply till_take0 (i := 22) (d := some 126)
      case hi => exact rfl
      case hd => exact rfl
      case hchk => kernel_rfl
      case hS => exact (fun h => by cases (show true = false from h))
      case hy => apply yields_plain; exact rfl; intro w _; go_simp <;> with_reducible rfl
      case hQ => exact fun _ _ _ h => h
      simp only [Act.put, List.setIfInBounds_toArray, List.set_cons_zero, List.set_cons_succ]
      apply till_take0 (i := 23) (d := some 127)
      case hi => exact rfl
      case hd => exact rfl
      case hchk => kernel_rfl
      case hS => exact (fun h => by cases (show true = false from h))
      case hy => apply yields_plain; exact rfl; intro w _; go_simp <;> with_reducible rfl
      case hQ => exact fun _ _ _ h => h
      simp only [Act.put, List.setIfInBounds_toArray, List.set_cons_zero, List.set_cons_succ]
      refine till_all (rs := [24]) (by kernel_rfl) (by simp) (mem_more (till_op (i := 24) (o := ⟨none, _, _, _, _, _⟩) rfl rfl (fun K hK => ?_)) (mem_none))
      have hbc : (w17).cell? ⟨x, 0, none⟩ = some _ := hBX.cell_ rfl
      have hbf := hBX.frozen 0
      go_simp
      clear hbc hbf
      obtain ⟨w18, hw1, hB1, hC1⟩ := set_named hBX 0 (.slice (some ⟨gk', 0, none⟩) (m - 1) ck')
      rw [hw1]
      have hOg := hOg.past hBX (by decide) hC1
      have hOk := hOk.past hBX (by decide) hC1
      have hCC := hCC.trans (hC1.mono fun k _ h => .inl h)
      have hBX := hB1
      clear hB1 hw1 hC1
      refine hK.out _ _ (fun h => by cases (show true = false from h)) (fun _ => ?_)
      clear hK K
      try simp only [Act.put, List.setIfInBounds_toArray, List.set_cons_zero, List.set_cons_succ]
      refine till_done (by kernel_rfl) ?_
      go_wp2_with fail
      refine bodyPost_end (results_none rfl _ _ _) rfl ?_
      refine HP.out _ _ ⟨rfl, fun h => absurd h ?_, fun _ => ⟨w13, fpm, gk', ck', g', c', HA13.out, HNDm.out, HSUB.out, HC13.out, ?_, ?_, hOg, hgk, hgg, hCC⟩⟩
      case refine_1 => have h2 := HSZE.out; rw [h2]; omega
      case refine_2 => rw [HLK.out]; exact hBX
      case refine_3 => rw [HLK.out]; exact hOk
end Go.Proofs.Ythndplpbnfihdaa
