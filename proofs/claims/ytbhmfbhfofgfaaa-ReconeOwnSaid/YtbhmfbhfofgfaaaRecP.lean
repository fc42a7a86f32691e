/- The walks of the laws RectwoNames, RectwoGroups, RectwoGroupBytes. -/
import Derived.Test.YtbhmfbhfofgfaaaRecO
namespace Go.Proofs.Ytbhmfbhfofgfaaa
open Go.RowKit
attribute [local go_sem ↓] Go.wp_at_zero Go.wp_at_succ
theorem nm_of (l a r : List UInt8) (n q wd : Nat) (h : l = a ++ (by8 wd n ++ r)) (hq : a.length = q) (hn : n < 256 ^ wd) : nm l q wd = n := by
  subst hq
  subst h
  exact nm_at a _ r n wd rfl hn
theorem gDec_gB (g : GroupV) (h : gFine g = true) : gDec (gB g) = { g with live := true } := by
  obtain ⟨⟨a1, a2⟩, ⟨b1, b2⟩, ⟨c1, c2⟩, ⟨d1, d2⟩, ⟨e1, e2⟩, ⟨f1, f2⟩⟩ := gFine_bd h
  have p4 : (256 : Nat) ^ 4 = 4294967296 := by simp
  have p2 : (256 : Nat) ^ 2 = 65536 := by simp
  have k1 := nm_of (gB g) [] (by8 4 g.ow.toNat ++ ptrs [g.out, g.inn, g.lp, g.nx]) g.ty.toNat 0 2 (by simp [gB]) rfl (by omega)
  have k2 := nm_of (gB g) (by8 2 g.ty.toNat) (ptrs [g.out, g.inn, g.lp, g.nx]) g.ow.toNat 2 4 (by simp [gB]) (by8_length _ _) (by omega)
  have k3 := nm_of (gB g) (by8 2 g.ty.toNat ++ by8 4 g.ow.toNat) (ptrs [g.inn, g.lp, g.nx]) (g.out + 1).toNat 6 4 (by simp [gB, ptrs]) (by simp [by8_length]) (by omega)
  have k4 := nm_of (gB g) (by8 2 g.ty.toNat ++ by8 4 g.ow.toNat ++ ptrs [g.out]) (ptrs [g.lp, g.nx]) (g.inn + 1).toNat 10 4 (by simp [gB, ptrs]) (by simp [by8_length, ptrs_length]) (by omega)
  have k5 := nm_of (gB g) (by8 2 g.ty.toNat ++ by8 4 g.ow.toNat ++ ptrs [g.out, g.inn]) (ptrs [g.nx]) (g.lp + 1).toNat 14 4 (by simp [gB, ptrs]) (by simp [by8_length, ptrs_length]) (by omega)
  have k6 := nm_of (gB g) (by8 2 g.ty.toNat ++ by8 4 g.ow.toNat ++ ptrs [g.out, g.inn, g.lp]) [] (g.nx + 1).toNat 18 4 (by simp [gB, ptrs]) (by simp [by8_length, ptrs_length]) (by omega)
  unfold gDec
  rw [k1, k2, k3, k4, k5, k6]
  obtain ⟨live, ty, ow, out, inn, lp, nx⟩ := g
  simp only at *
  simp only [GroupV.mk.injEq, true_and]
  omega
end Go.Proofs.Ytbhmfbhfofgfaaa
