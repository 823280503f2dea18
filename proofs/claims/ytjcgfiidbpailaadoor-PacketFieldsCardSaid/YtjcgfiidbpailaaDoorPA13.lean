/- PacketFields: the names of fields, and packets with other numbers, are the ones of the document. For every input, as the given row says; the card ties the listed tables. -/
import Derived.SizedLaws
import Derived.Test.YtjcgfiidbpailaaDoorPA08
import Derived.Test.YtjcgfiidbpailaaDoorPA11

namespace Go.Proofs.YtjcgfiidbpailaaDoor.packetFields
open Go.Proofs Go.RowKit Go.Shelf Go.Lib Go.ChangeShapes Go.Ax
open Go.ChangeMaps (open_string shut_string)
set_option maxRecDepth 100000
theorem contract (H : Type) (enc : TypeId × Value → H) (W : World) (base : Nat) (args : Array Value) (ds gs : List (DataW H)) (before : List MemPlace)
    (hval : ∀ (j : Nat) t v, Tryd.f4.params[j]? = some t → args[j]? = some v → Value.okWide Tryd.prog W .any base t v)
    (hW : DataW.Whole enc Tryd.prog Tryd.f4.params.toList Rows.packetFieldsSpec.vars false W args.toList ds gs before) (hz : (DataW.weightsEach Tryd.prog (Tryd.f4.params.toList ++ (OpenSpec.ofChange Rows.packetFieldsSpec).bare.plain.varTypes Tryd.prog) (ds ++ gs)).all (· ≤ reachBytes) = true) (hL : laidMetH Tryd.prog Rows.packetFieldsRow.laid W) :
    Calls Tryd.prog 4 args W fun e W' => ∃ v, e = .returned v ∧ Rows.packetFieldsSpec.post enc Tryd.prog Tryd.f4 false true false false W args v W' := by
  have hW' := hW
  obtain ⟨p, q, hA0, hV, rfl, _, _⟩ := hW
  have hA : DataW.TrodAll enc Tryd.prog W 0 (fun _ => true) true Tryd.f4.params.toList args.toList ds p := hA0
  rw [Tryd.params4] at hA hval
  obtain ⟨v0, v1, v2, d0, d1, d2, p0, p1, p2, rfl, rfl, rfl, h0, h1, h2⟩ := trodAll_three hA
  obtain ⟨rfl, rfl⟩ := trodVars_none hV
  have hrb := reachBytes_lt
  have hr := fun {n d} (hm : (n, d) ∈ Rows.packetFieldsRow.laid) => laidMet.reads hL hm
  have hwt : ∀ m ∈ d0.weights Tryd.prog 24, m ≤ reachBytes := fun m hm => by
    have := List.all_eq_true.1 hz m (DataW.weights_mem_each (j := 0) (t := 24) (by kernel_rfl) rfl m hm)
    simpa using this
  obtain ⟨dd, hlen, hra, hfit⟩ := cv_array Tryd.underlying24 (hval 0 24 v0 rfl rfl) h0 hwt (f2 := 4) (es := List.replicate 8 (.int .u16)) (by kernel_rfl) (fun _ => none)
  obtain ⟨pk, rfl, hok⟩ := packet_of hlen hfit
  obtain ⟨f, rfl, rfl, rfl, wf⟩ := open_int Tryd.underlying3 (hval 1 3 v1 rfl rfl) h1
  have hwt2 : ∀ m ∈ d2.weights Tryd.prog 30, m ≤ reachBytes := fun m hm => by
    have := List.all_eq_true.1 hz m (DataW.weights_mem_each (j := 2) (t := 30) (by kernel_rfl) rfl m hm)
    simpa using this
  obtain ⟨-, els2, hrd2, hfit2⟩ := cv_slice Tryd.underlying30 (hval 2 30 v2 rfl rfl) h2 hwt2 (f2 := 6) (b := 16) (es := [.int .i64, .int .u16]) (by kernel_rfl)
  obtain ⟨l, e2, hu, hl⟩ := pairsR_of hfit2
  rw [e2] at hrd2
  have hC := packetFields_ctr (gp0 W) (fun w hw => PowG.old hw (powG_of (hr (.tail _ (.tail _ (.head _)))))) (fun w hw => ErrG.old hw (errG_of hL.tail.tail.tail.tail)) pk hok.1 f false l hl (fun x hx => (hu x hx).1)
  clear hA hA0
  refine (calls_of_ctr0 hC #[v0, .int .i64 f, v2] rfl fun i v x hi hx => ?_).mono fun e W' ⟨he, hb⟩ => ⟨_, he, post_law rfl rfl (by kernel_rfl) hW' rfl hb⟩
  match i with
  | 0 => simp at hi hx; subst hi; subst hx; exact hra
  | 1 => simp at hi hx; subst hi; subst hx; exact RA.intv _ rfl
  | 2 => simp at hi hx; subst hi; subst hx; exact .d _ _ hrd2
  | n + 3 => simp at hi
noncomputable abbrev wargs : Array Value := #[.agg #[.int .u16 0, .int .u16 0, .int .u16 0, .int .u16 0, .int .u16 0, .int .u16 0, .int .u16 0, .int .u16 0], .int .i64 0, .slice none 0 0]
theorem reads (os : Os) {H : Type} (enc : TypeId × Value → H) : ∃ places, DataW.whole enc Tryd.prog (memOf os wargs) Tryd.f4.params.toList Rows.packetFieldsSpec.vars false wargs.toList 8 = some ([.agg [.lit (.int .u16 0), .lit (.int .u16 0), .lit (.int .u16 0), .lit (.int .u16 0), .lit (.int .u16 0), .lit (.int .u16 0), .lit (.int .u16 0), .lit (.int .u16 0)], .lit (.int .i64 0), .nil], [], places) :=
  ⟨[], by kernel_rfl⟩
theorem laid_met (os : Os) : laidMet Tryd.prog Rows.packetFieldsRow.laid (memOf os wargs) := (laidInE os wargs).met
theorem lifted (os : Os) (started : os.Started) (H : Type) (enc : TypeId × Value → H) (F : Stop.Interp) :
    ReturnsInHanded {} Tryd.checked os 4 .any ((OpenSpec.ofChange Rows.packetFieldsSpec).preRow enc Tryd.prog Tryd.f4 Rows.packetFieldsRow.domain false Rows.packetFieldsRow.laid) (((OpenSpec.ofChange Rows.packetFieldsSpec).at F).post enc Tryd.prog Tryd.f4 false true false false) := by
  obtain ⟨places, hx⟩ := reads os enc
  refine returnsInHanded_of_row (C := Tryd.checked) (s := OpenSpec.ofChange Rows.packetFieldsSpec) own started (by kernel_rfl) Tryd.func4
    (witness_row_atRef (enc := enc) (C := Tryd.checked) false (laidWorld os) wargs rfl (by kernel_rfl) (by kernel_rfl) (by kernel_rfl)
      (OpenSpec.preRow_of_cond 8 hx (by kernel_rfl) (fun k hk => by cases hk) (by kernel_rfl) (laid_met os))) ?_
  intro W base args ds gs before hval hW _ _ hz hL _ _
  exact contract H enc W base args ds gs before hval hW hz hL
set_option maxHeartbeats 20000000 in
theorem closed : joinedFacts Tryd.pinned.checked.prog 4 Tryd.f4 (OpenSpec.ofChange Rows.packetFieldsSpec).bare Rows.packetFieldsRow = true := by
  unfold joinedFacts
  with_reducible repeat' apply andT
  all_goals (as_aux_lemma => kernel_rfl)
theorem said : Rows.PacketFieldsSaid :=
  OpenClaim.holds_of_cond 4 Tryd.f4 rfl rfl rfl rfl rfl rfl rfl ⟨rfl, rfl, rfl, rfl, rfl⟩ rfl rfl rfl rfl rfl (by kernel_rfl) Tryd.func4 closed
    (of_decide_eq_true (by kernel_rfl)) (by unfold Func.isWrapper; first | (rw [if_pos (by decide +kernel)]; kernel_rfl) | (rw [if_neg (by decide +kernel)]; exact ⟨rfl, rfl⟩))
    (fun os started H enc _ F => by rw [OpenClaim.pre_eq_preRow]; exact lifted os started H enc F)
theorem plain (f : FuncId) (fn : Func) (hf : Tryd.pinned.checked.prog.funcNamed "pointsman/pointsmanlaw01.PacketFields" = some f) (hfn : Tryd.pinned.checked.prog.funcs[f]? = some fn) :
    true = Tryd.pinned.checked.prog.looks [] ∧ ∀ (j : Nat) t, fn.params[j]? = some t → Tryd.pinned.checked.prog.wantsStandIn t = false := by
  obtain rfl : f = 4 := Option.some.inj ((show Tryd.prog.funcNamed "pointsman/pointsmanlaw01.PacketFields" = some 4 by kernel_rfl).symm.trans hf) |>.symm
  obtain rfl : fn = Tryd.f4 := (Option.some.inj (Tryd.func4.symm.trans hfn)).symm
  refine ⟨by kernel_rfl, fun j t ht => ?_⟩
  rw [Tryd.params4] at ht
  have h := Array.mem_of_getElem? ht
  simp at h
  rcases h with rfl | rfl | rfl
  · exact (show Tryd.prog.wantsStandIn 24 = false by kernel_rfl)
  · exact (show Tryd.prog.wantsStandIn 3 = false by kernel_rfl)
  · exact (show Tryd.prog.wantsStandIn 30 = false by kernel_rfl)
theorem card : Rows.PacketFieldsCardSaid :=
  Claim7.holds_tied_plain_at .later [] _ _ _ _ said (fun _ h => by cases h) (by kernel_rfl) (fun _ h => by cases h) packetFields_row_tie rfl ⟨rfl, rfl⟩ (by kernel_rfl) rfl plain (by kernel_rfl)
end Go.Proofs.YtjcgfiidbpailaaDoor.packetFields
