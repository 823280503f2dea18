/- ShowBack: the text of a program, if it is not too long, is parsed as that program. For every input, as the given row says; the card ties the listed tables. -/
import Derived.SizedLaws
import Derived.Test.YtdobclfcondfcaaGreatDoorBA10
import Derived.Test.YtdobclfcondfcaaGreatDoorBA12
import Derived.Test.YtdobclfcondfcaaGreatDoorBA18

namespace Go.Proofs.YtdobclfcondfcaaGreatDoor.showBack
open Go.Proofs Go.RowKit Go.Shelf Go.Lib Go.ChangeShapes Go.Ax
open Go.ChangeMaps (open_string shut_string)
set_option maxRecDepth 100000
theorem contract (H : Type) (enc : TypeId × Value → H) (W : World) (base : Nat) (args : Array Value) (ds gs : List (DataW H)) (before : List MemPlace)
    (hval : ∀ (j : Nat) t v, Tryz.f3.params[j]? = some t → args[j]? = some v → Value.okWide Tryz.prog W .any base t v)
    (hW : DataW.Whole enc Tryz.prog Tryz.f3.params.toList Rows.showBackSpec.vars false W args.toList ds gs before) (hz : (DataW.weightsEach Tryz.prog (Tryz.f3.params.toList ++ (OpenSpec.ofChange Rows.showBackSpec).bare.plain.varTypes Tryz.prog) (ds ++ gs)).all (· ≤ reachBytes) = true) (hL : laidMetH Tryz.prog Rows.showBackRow.laid W) :
    Calls Tryz.prog 3 args W fun e W' => ∃ v, e = .returned v ∧ Rows.showBackSpec.post enc Tryz.prog Tryz.f3 false true false false W args v W' := by
  have hW' := hW
  obtain ⟨p, q, hA0, hV, rfl, _, _⟩ := hW
  have hA : DataW.TrodAll enc Tryz.prog W 0 (fun _ => true) true Tryz.f3.params.toList args.toList ds p := hA0
  rw [Tryz.params3] at hA hval
  obtain ⟨v0, v1, v2, d0, d1, d2, p0, p1, p2, rfl, rfl, rfl, h0, h1, h2⟩ := trodAll_three hA
  obtain ⟨rfl, rfl⟩ := trodVars_none hV
  have hrb := reachBytes_lt
  have hr := fun {n d} (hm : (n, d) ∈ Rows.showBackRow.laid) => laidMet.reads hL hm
  have hwt0 : ∀ m ∈ d0.weights Tryz.prog 22, m ≤ reachBytes := fun m hm => by
    have := List.all_eq_true.1 hz m (DataW.weights_mem_each (j := 0) (t := 22) (by kernel_rfl) rfl m hm)
    simpa using this
  have hwt1 : ∀ m ∈ d1.weights Tryz.prog 23, m ≤ reachBytes := fun m hm => by
    have := List.all_eq_true.1 hz m (DataW.weights_mem_each (j := 1) (t := 23) (by kernel_rfl) rfl m hm)
    simpa using this
  have hwt2 : ∀ m ∈ d2.weights Tryz.prog 24, m ≤ reachBytes := fun m hm => by
    have := List.all_eq_true.1 hz m (DataW.weights_mem_each (j := 2) (t := 24) (by kernel_rfl) rfl m hm)
    simpa using this
  obtain ⟨-, els0, hrd0, hfit0⟩ := cv_slice Tryz.underlying22 (hval 0 22 v0 rfl rfl) h0 hwt0 (f2 := 4) (b := 2) (es := [.int .u16]) (by kernel_rfl)
  obtain ⟨-, els1, hrd1, hfit1⟩ := cv_slice Tryz.underlying23 (hval 1 23 v1 rfl rfl) h1 hwt1 (f2 := 4) (b := 24) (es := [.int .i64, .int .i64, .int .u16, .int .u8]) (by kernel_rfl)
  obtain ⟨-, els2, hrd2, hfit2⟩ := cv_slice Tryz.underlying24 (hval 2 24 v2 rfl rfl) h2 hwt2 (f2 := 6) (b := 72) (es := [.sl 16 [.int .i64, .int .u16], .sl 16 [.int .i64, .int .u16], .sl 16 [.int .i64, .int .u16]]) (by kernel_rfl)
  obtain ⟨init, e0, t0, s0⟩ := nums_of hfit0
  obtain ⟨l, e1, t1, s1⟩ := steps_of hfit1
  obtain ⟨rules, e2, t2, s2⟩ := rules_of hfit2
  rw [show ([Sh.int .u16] : List Sh).length = 1 from rfl] at e0 hrd0
  rw [e0] at hrd0; rw [e1] at hrd1; rw [e2] at hrd2
  have hG : LibG W := ⟨utf8G_of (hr (.tail _ (.tail _ (.tail _ (.tail _ (.tail _ (.tail _ (.head _))))))) ) (hr (.tail _ (.tail _ (.tail _ (.head _))))), propG_of (hr (.tail _ (.tail _ (.tail _ (.tail _ (.head _)))))), letterG_of (hr (.tail _ (.tail _ (.tail _ (.tail _ (.tail _ (.head _)))))))⟩
  have hC := showBack_ctr (gp0 W) (fun w hw => PowG.old hw (powG_of (hr (.tail _ (.tail _ (.head _)))))) (fun w hw => hG.old hw) init l rules ⟨t0, t1, fun r hr => (t2 r hr).1, fun r hr => (t2 r hr).2.1, fun r hr => (t2 r hr).2.2⟩ (by omega) (by omega) (by omega)
  clear hA hA0
  refine (calls_of_ctr0 hC #[v0, v1, v2] rfl fun i v x hi hx => ?_).mono fun e W' ⟨he, hb⟩ => ⟨_, he, post_law rfl rfl (by kernel_rfl) hW' rfl hb⟩
  match i with
  | 0 => simp at hi hx; subst hi; subst hx; exact .d _ _ hrd0
  | 1 => simp at hi hx; subst hi; subst hx; exact .d _ _ hrd1
  | 2 => simp at hi hx; subst hi; subst hx; exact .d _ _ hrd2
  | n + 3 => simp at hi
noncomputable abbrev wargs : Array Value := #[.slice none 0 0, .slice none 0 0, .slice none 0 0]
theorem reads (os : Os) {H : Type} (enc : TypeId × Value → H) : ∃ places, DataW.whole enc Tryz.prog (memOf os wargs) Tryz.f3.params.toList Rows.showBackSpec.vars false wargs.toList 8 = some ([.nil, .nil, .nil], [], places) :=
  ⟨[], by kernel_rfl⟩
theorem laid_met (os : Os) : laidMet Tryz.prog Rows.showBackRow.laid (memOf os wargs) := (laidIn7 os wargs).met
theorem lifted (os : Os) (started : os.Started) (H : Type) (enc : TypeId × Value → H) (F : Stop.Interp) :
    ReturnsInHanded {} Tryz.checked os 3 .any ((OpenSpec.ofChange Rows.showBackSpec).preRow enc Tryz.prog Tryz.f3 Rows.showBackRow.domain false Rows.showBackRow.laid) (((OpenSpec.ofChange Rows.showBackSpec).at F).post enc Tryz.prog Tryz.f3 false true false false) := by
  obtain ⟨places, hx⟩ := reads os enc
  refine returnsInHanded_of_row (C := Tryz.checked) (s := OpenSpec.ofChange Rows.showBackSpec) own started (by kernel_rfl) Tryz.func3
    (witness_row_atRef (enc := enc) (C := Tryz.checked) false (laidWorld os) wargs rfl (by kernel_rfl) (by kernel_rfl) (by kernel_rfl)
      (OpenSpec.preRow_of_cond 8 hx (by kernel_rfl) (fun k hk => by cases hk) (by kernel_rfl) (laid_met os))) ?_
  intro W base args ds gs before hval hW _ _ hz hL _ _
  exact contract H enc W base args ds gs before hval hW hz hL
set_option maxHeartbeats 20000000 in
theorem closed : joinedFacts Tryz.pinned.checked.prog 3 Tryz.f3 (OpenSpec.ofChange Rows.showBackSpec).bare Rows.showBackRow = true := by
  unfold joinedFacts
  with_reducible repeat' apply andT
  all_goals (as_aux_lemma => kernel_rfl)
theorem said : Rows.ShowBackSaid :=
  OpenClaim.holds_of_cond 3 Tryz.f3 rfl rfl rfl rfl rfl rfl rfl ⟨rfl, rfl, rfl, rfl, rfl⟩ rfl rfl rfl rfl rfl (by kernel_rfl) Tryz.func3 closed
    (of_decide_eq_true (by kernel_rfl)) (by unfold Func.isWrapper; first | (rw [if_pos (by decide +kernel)]; kernel_rfl) | (rw [if_neg (by decide +kernel)]; exact ⟨rfl, rfl⟩))
    (fun os started H enc _ F => by rw [OpenClaim.pre_eq_preRow]; exact lifted os started H enc F)
theorem plain (f : FuncId) (fn : Func) (hf : Tryz.pinned.checked.prog.funcNamed "pointsman/pointsmanlaw06.ShowBack" = some f) (hfn : Tryz.pinned.checked.prog.funcs[f]? = some fn) :
    true = Tryz.pinned.checked.prog.looks [] ∧ ∀ (j : Nat) t, fn.params[j]? = some t → Tryz.pinned.checked.prog.wantsStandIn t = false := by
  obtain rfl : f = 3 := Option.some.inj ((show Tryz.prog.funcNamed "pointsman/pointsmanlaw06.ShowBack" = some 3 by kernel_rfl).symm.trans hf) |>.symm
  obtain rfl : fn = Tryz.f3 := (Option.some.inj (Tryz.func3.symm.trans hfn)).symm
  refine ⟨by kernel_rfl, fun j t ht => ?_⟩
  rw [Tryz.params3] at ht
  have h := Array.mem_of_getElem? ht
  simp at h
  rcases h with rfl | rfl | rfl
  · exact (show Tryz.prog.wantsStandIn 22 = false by kernel_rfl)
  · exact (show Tryz.prog.wantsStandIn 23 = false by kernel_rfl)
  · exact (show Tryz.prog.wantsStandIn 24 = false by kernel_rfl)
theorem card : Rows.ShowBackCardSaid :=
  Claim7.holds_tied_plain_at .later [] _ _ _ _ said (fun _ h => by cases h) (by kernel_rfl) (fun _ h => by cases h) showBack_row_tie rfl ⟨rfl, rfl⟩ (by kernel_rfl) rfl plain (by kernel_rfl)
end Go.Proofs.YtdobclfcondfcaaGreatDoor.showBack
