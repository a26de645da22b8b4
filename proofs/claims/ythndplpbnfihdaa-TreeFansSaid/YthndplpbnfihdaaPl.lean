/-
  Put's closure at an inner node whose child doesn't outgrow the tree's width. Conditions: the callees' contracts.
-/
import Derived.Test.YthndplpbnfihdaaFp
set_option linter.unusedVariables false
set_option linter.unusedSimpArgs false
namespace Go.Proofs.Ythndplpbnfihdaa
open Go.RowKit

def PutLow (w : World) (d x bf : Nat) (t : Tr d) (fpx : List Nat) (key : ByteArray) (row : Int) (fan : Nat) (f0 : Bool) (e : Ending) (w' : World) : Prop :=
  e = .returned (.tuple #[]) ∧ ∃ q p w2, PutPost (w.drewN q) d x bf t fpx key row fan f0 (.returned (.tuple #[])) w2 ∧ w' = w2.drewN p

set_option maxHeartbeats 1000000 in
set_option maxRecDepth 100000 in
theorem put_inner_low (w : World) (d b bk br bf bp bt tr g n c i x : Nat) (vk : Value) (t : Tr d) (fpx fp : List Nat) (ks : List ByteArray) (key : ByteArray) (row : Int) (fan : Nat) (f0 : Bool)
    (hb : Blk w b 62 #[vk, .slice none 0 0, .slice (some ⟨g, 0, none⟩) n c]) (hcell : w.cell? ⟨g, i, none⟩ = some (ptr x)) (hin : i < n) (hbig : n ≤ 1000)
    (he : Env w fp bk br bf bp bt tr key row fan) (hf : Blk w bf 4 #[.bool f0]) (hfx : ∀ k ∈ fpx, k ∈ fp) (hbx : b ∉ fpx) (hfan : fan ≤ 64)
    (HW : Hid (Calls Try.prog 33 #[ptr b, .string key] w (fun e w' => e = .returned (.int .i64 i) ∧ ∃ q, w' = w.drewN q)))
    (HC : Hid (∀ q, Calls Try.prog 29 #[ptr x, ptr bk, ptr br, ptr bf, ptr bp, ptr bt] (w.drewN q) (PutPost (w.drewN q) d x bf t fpx key row fan f0)))
    (hsize : ¬ fan < sizeT d (putT fan key row d t)) :
    Calls Try.prog 29 #[ptr b, ptr bk, ptr br, ptr bf, ptr bp, ptr bt] w (PutLow w d x bf t fpx key row fan f0) := by
  unfold ptr at *
  obtain ⟨R, hR⟩ : ∃ R, R = PutLow w d x bf t fpx key row fan f0 := ⟨_, rfl⟩
  rw [← hR]
  have hkc : w.cell? ⟨b, 2, none⟩ = some (.slice (some ⟨g, 0, none⟩) n c) := hb.cell_ rfl
  have hkey : w.cell? ⟨bk, 0, none⟩ = some (.string key) := he.hk.cell_ rfl
  have hclo : w.cell? ⟨bp, 0, none⟩ = some (.func (.func 29) #[] #[.pointer (some ⟨bk, 0, none⟩), .pointer (some ⟨br, 0, none⟩), .pointer (some ⟨bf, 0, none⟩), .pointer (some ⟨bp, 0, none⟩), .pointer (some ⟨bt, 0, none⟩)]) := he.hp.cell_ rfl
  have hin' : (i : Int) < (n : Int) := by omega
  have HE := Lib.hid he
  have HF := Lib.hid hf
  have HFX : Hid (∀ k ∈ fpx, k ∈ fp) := hfx
  have HS := Lib.hid hsize
  have HP : Hid (∀ e w' q p w2, e = .returned (.tuple #[]) → PutPost (w.drewN q) d x bf t fpx key row fan f0 (.returned (.tuple #[])) w2 → w' = w2.drewN p → R e w') := by
    intro e w' q p w2 h1 h2 h3; rw [hR]; exact ⟨h1, q, p, w2, h2, h3⟩
  clear hb he hf hfx hsize hR
  go_enter Try.func29, Try.ntmps29
  go_wp2_with fail
  go_at_call 33
  refine HW.out.mono ?_
  rintro e w1 ⟨rfl, q, rfl⟩
  go_wp2_with fail
  refine (HC.out q).mono ?_
  rintro e w2 ⟨rfl, fp', hAt, hnd, hsub, hf2, hC2⟩
  obtain ⟨sz, hsz⟩ : ∃ sz, sizeT d (putT fan key row d t) = sz := ⟨_, rfl⟩
  have HSZ : Hid (∀ q', Calls Try.prog 34 #[.pointer (some ⟨x, 0, none⟩)] (w2.drewN q') (fun e w' => e = .returned (.int .i64 (sz : Nat)) ∧ ∃ m, w' = (w2.drewN q').drewN m)) := fun q' => by
    refine (size_at (hAt.drewN q')).mono ?_
    rintro e w' ⟨h1, rfl⟩
    rw [hsz] at h1
    exact ⟨h1, 0, rfl⟩
  have hle : (sz : Int) ≤ (fan : Int) := by have := HS.out; rw [hsz] at this; omega
  have hE2 : Env w2 fp bk br bf bp bt tr key row fan := (HE.out.chg (fp' := fp) HF.out ((Chg.refl (fun _ => False) w).drewN q) (fun _ h _ => h.elim) fun _ h => .inl h).chg (fp' := fp)
    (HF.out.chg ((Chg.refl (fun _ => False) w).drewN q) id) hC2 (fun k h _ => h.imp (HFX.out k) id) (fun _ h => .inl h)
  have htc : w2.cell? ⟨bt, 0, none⟩ = some (.pointer (some ⟨tr, 0, none⟩)) := hE2.ht.cell_ rfl
  obtain ⟨tn, root, htr⟩ := hE2.htr
  have hfc : w2.cell? ⟨tr, 0, none⟩ = some (.int .i64 fan) := htr.cell_ rfl
  have HPP : Hid (∀ e w' p, e = .returned (.tuple #[]) → w' = w2.drewN p → R e w') := fun e w' p h1 h2 => HP.out e w' q p w2 h1 ⟨rfl, fp', hAt, hnd, hsub, hf2, hC2⟩ h2
  clear hAt hnd hsub hf2 hC2 hE2 htr HP hsz HE HF
  go_wp2_with fail
  go_quiet ((go_at_call 34; exact Calls.quiet_of (HSZ.out _)))
  go_wp2_with fail
  refine bodyPost_end (results_none rfl _ _ _) rfl ?_
  exact HPP.out _ _ _ rfl rfl
end Go.Proofs.Ythndplpbnfihdaa
