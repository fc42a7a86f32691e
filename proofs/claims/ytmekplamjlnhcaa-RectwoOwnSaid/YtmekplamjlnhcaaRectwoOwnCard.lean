/- RectwoOwn: for every input (within the row) the law returns true and its arguments read afterwards as before. Conditions: the row's own; nothing else. -/
import Derived.Test.YtmekplamjlnhcaaRows
import Derived.Test.YtmekplamjlnhcaaLaw
import Derived.Test.YtmekplamjlnhcaaRecOwn
import Derived.Test.YtmekplamjlnhcaaRecArgN
import Derived.Test.YtmekplamjlnhcaaRecArgs
namespace Go.Proofs.Ytmekplamjlnhcaa.rectwoOwn
open Go.ChangeShapes Go.WideShapes Go.ChangeAt Go.RowKit
theorem own : ownKnob Try.prog.godebug = none := by kernel_rfl
theorem laidOut : laidOutB Try.prog = true := by kernel_rfl
theorem readable : ((Try.f10.params.toList).all fun t => Try.prog.readableRec t && decide (t < Try.prog.types.size)) = true := by kernel_rfl
set_option maxRecDepth 100000 in
theorem contract (H : Type) (enc : TypeId × Value → H) (W : World) (base : Nat) (args : Array Value) (ds gs : List (DataW H)) (before : List MemPlace)
    (hval : ∀ (j : Nat) t v, Try.f10.params[j]? = some t → args[j]? = some v → Value.okWide Try.prog W .any base t v)
    (hW : DataW.Whole enc Try.prog Try.f10.params.toList Rows.rectwoOwnSpec.vars false W args.toList ds gs before)
    (hsz : (DataW.weightsEach Try.prog (Try.f10.params.toList ++ (OpenSpec.ofChange Rows.rectwoOwnSpec).bare.plain.varTypes Try.prog) (ds ++ gs)).all (· ≤ reachBytes) = true) :
    Calls Try.prog 10 args W fun e W' => ∃ v, e = .returned v ∧ Rows.rectwoOwnSpec.post enc Try.prog Try.f10 false true false false W args v W' := by
  have hW' := hW
  obtain ⟨p, q, hA0, hV, rfl, hfz, hnd⟩ := hW
  have hA : DataW.TrodAll enc Try.prog W 0 (fun _ => true) true Try.f10.params.toList args.toList ds p := hA0
  obtain ⟨rfl, rfl⟩ := trodVars_none hV
  clear hA0 hV
  rw [Try.params10] at hA hval hsz
  obtain ⟨v0, vs0, d0, ds0, p0, q0, hargs, rfl, rfl, h0, r0⟩ := trodAll_cons hA
  obtain ⟨v1, vs1, d1, ds1, p1, q1, rfl, rfl, rfl, h1, r1⟩ := trodAll_cons r0
  obtain ⟨rfl, rfl, rfl⟩ := trodAll_nil r1
  obtain rfl : args = #[v0, v1] := by cases args; simp_all
  obtain ⟨dn0, fi0, ov0, la0, lc0, labs0, sa0, sc0, sl0, rfl, ll0, il0, ln0, no0, by0⟩ := nodeArg (hval 0 54 v0 rfl rfl) h0 (wt_arg hsz 0 rfl rfl)
  obtain ⟨lv1, fr1, to1, fp1, tp1, fn1, tn1, ty1, ov1, sa1, sc1, sl1, rfl, ln1, no1, by1⟩ := relArg (hval 1 27 v1 rfl rfl) h1 (wt_arg hsz 1 rfl rfl)
  refine (rectwoOwn_walk dn0 fi0 ov0 la0 lc0 labs0 sa0 sc0 sl0 lv1 fr1 to1 fp1 tp1 fn1 tn1 ty1 ov1 sa1 sc1 sl1 W ll0.1 ll0.2 il0 (by omega) no0 by0 (by omega) no1 by1).mono fun e W' ⟨he, hf⟩ => ⟨.bool true, he, ?_⟩
  exact law_post hW' rfl rfl laidOut readable rfl Try.underlying4 hf
noncomputable def laidWorld (os : Os) : World := World.holding Try.prog os ⟨#[], #[], []⟩
theorem laid_met (os : Os) : laidMet Try.prog Rows.rectwoOwnRow.laid ((laidWorld os).forCall (fun _ _ => 0) ⟨#[], #[.agg #[.bool false, .int .i64 0, .int .i64 0, .slice none 0 0, .slice none 0 0], .agg #[.bool false, .int .i64 0, .int .i64 0, .int .i64 0, .int .i64 0, .int .i64 0, .int .i64 0, .int .i64 0, .int .i64 0, .slice none 0 0]], []⟩).memory := by
  exact laidMet_of_run' 8 (by kernel_rfl) (by kernel_rfl)
theorem reads (os : Os) {H : Type} (enc : TypeId × Value → H) : ∃ places, DataW.whole enc Try.prog ((laidWorld os).forCall (fun _ _ => 0) ⟨#[], #[.agg #[.bool false, .int .i64 0, .int .i64 0, .slice none 0 0, .slice none 0 0], .agg #[.bool false, .int .i64 0, .int .i64 0, .int .i64 0, .int .i64 0, .int .i64 0, .int .i64 0, .int .i64 0, .int .i64 0, .slice none 0 0]], []⟩).memory Try.f10.params.toList Rows.rectwoOwnSpec.vars false (#[.agg #[.bool false, .int .i64 0, .int .i64 0, .slice none 0 0, .slice none 0 0], .agg #[.bool false, .int .i64 0, .int .i64 0, .int .i64 0, .int .i64 0, .int .i64 0, .int .i64 0, .int .i64 0, .int .i64 0, .slice none 0 0]] : Array Value).toList 8 = some ([.agg [.lit (.bool false), .lit (.int .i64 0), .lit (.int .i64 0), .nil, .nil], .agg [.agg [.lit (.bool false), .lit (.int .i64 0), .lit (.int .i64 0), .lit (.int .i64 0), .lit (.int .i64 0), .lit (.int .i64 0), .lit (.int .i64 0)], .lit (.int .i64 0), .lit (.int .i64 0), .nil]], [], places) :=
  ⟨[], by kernel_rfl⟩
set_option maxRecDepth 100000 in
theorem lifted (os : Os) (started : os.Started) (H : Type) (enc : TypeId × Value → H) (F : Stop.Interp) :
    ReturnsInHanded {} Try.checked os 10 .any ((OpenSpec.ofChange Rows.rectwoOwnSpec).preRow enc Try.prog Try.f10 Rows.rectwoOwnRow.domain false Rows.rectwoOwnRow.laid) (((OpenSpec.ofChange Rows.rectwoOwnSpec).at F).post enc Try.prog Try.f10 false true false false) := by
  obtain ⟨places, hx⟩ := reads os enc
  refine returnsInHanded_of_row (C := Try.checked) (s := OpenSpec.ofChange Rows.rectwoOwnSpec) own started (by kernel_rfl) Try.func10
    (witness_row_at (enc := enc) (C := Try.checked) false (laidWorld os) #[.agg #[.bool false, .int .i64 0, .int .i64 0, .slice none 0 0, .slice none 0 0], .agg #[.bool false, .int .i64 0, .int .i64 0, .int .i64 0, .int .i64 0, .int .i64 0, .int .i64 0, .int .i64 0, .int .i64 0, .slice none 0 0]] rfl (by kernel_rfl) (by kernel_rfl) (by kernel_rfl)
      (OpenSpec.preRow_of_cond 8 hx (by kernel_rfl) (fun k hk => by cases hk) (by kernel_rfl) (laid_met os))) ?_
  intro W base args ds gs before hval hW _ hcond hsz hL _ _
  exact contract H enc W base args ds gs before hval hW hsz
theorem said : Rows.RectwoOwnSaid :=
  OpenClaim.holds_of_cond 10 Try.f10 rfl rfl rfl rfl rfl rfl rfl ⟨rfl, rfl, rfl, rfl, rfl⟩ rfl rfl rfl rfl rfl (by kernel_rfl) Try.func10 (by kernel_rfl)
    (of_decide_eq_true (by kernel_rfl)) (by unfold Func.isWrapper; first | (rw [if_pos (by decide +kernel)]; kernel_rfl) | (rw [if_neg (by decide +kernel)]; exact ⟨rfl, rfl⟩))
    (fun os started H enc _ F => by rw [OpenClaim.pre_eq_preRow]; exact lifted os started H enc F)
#print axioms said
end Go.Proofs.Ytmekplamjlnhcaa.rectwoOwn
