/- Law LexBack (layer 4): tokens as a text are the document's; a text's tokens as a text have these tokens. For every input, as the given row says; the card ties the listed tables. -/
import Derived.Test.YtjokajidcojlmaaDoorAxBw
import Derived.Test.YtjokajidcojlmaaDoorAxLq
import Derived.Test.YtjokajidcojlmaaDoorAxCv
import Derived.SizedLaws
namespace Go.Proofs.YtjokajidcojlmaaDoor.lexBack
open Go.Proofs Go.RowKit Go.Shelf Go.Lib Go.ChangeShapes Go.Ax
open Go.ChangeMaps (open_string shut_string)
set_option maxRecDepth 100000

theorem contract (H : Type) (enc : TypeId × Value → H) (W : World) (base : Nat) (args : Array Value) (ds gs : List (DataW H)) (before : List MemPlace)
    (hval : ∀ (j : Nat) t v, Tryd.f4.params[j]? = some t → args[j]? = some v → Value.okWide Tryd.prog W .any base t v)
    (hW : DataW.Whole enc Tryd.prog Tryd.f4.params.toList Rows.lexBackSpec.vars false W args.toList ds gs before) (hz : (DataW.weightsEach Tryd.prog (Tryd.f4.params.toList ++ (OpenSpec.ofChange Rows.lexBackSpec).bare.plain.varTypes Tryd.prog) (ds ++ gs)).all (· ≤ reachBytes) = true) (hL : laidMetH Tryd.prog Rows.lexBackRow.laid W) :
    Calls Tryd.prog 4 args W fun e W' => ∃ v, e = .returned v ∧ Rows.lexBackSpec.post enc Tryd.prog Tryd.f4 false true false false W args v W' := by
  have hW' := hW
  obtain ⟨p, q, hA0, hV, rfl, _, _⟩ := hW
  have hA : DataW.TrodAll enc Tryd.prog W 0 (fun _ => true) true Tryd.f4.params.toList args.toList ds p := hA0
  rw [Tryd.params4] at hA hval
  obtain ⟨v0, v1, d0, d1, p0, p1, rfl, rfl, rfl, h0, h1⟩ := trodAll_two hA
  obtain ⟨rfl, rfl⟩ := trodVars_none hV
  obtain ⟨a, rfl, rfl, rfl, wa⟩ := open_string Tryd.underlying9 (hval 0 9 v0 rfl rfl) h0
  have hwt : ∀ m ∈ d1.weights Tryd.prog 42, m ≤ reachBytes := fun m hm => by
    have := List.all_eq_true.1 hz m (DataW.weights_mem_each (j := 1) (t := 42) (by kernel_rfl) rfl m hm)
    simpa using this
  obtain ⟨hone, els, hrd, hfit⟩ := cv_slice Tryd.underlying42 (hval 1 42 v1 rfl rfl) h1 hwt (f2 := 4) (b := 32) (es := [.int .i64, .str, .int .u16]) (by kernel_rfl)
  obtain ⟨l, hl, hll⟩ : ∃ l : List TokT, els = l.map rowK ∧ ∀ t ∈ l, 0 ≤ t.n ∧ t.n < 65536 := by
    cases hfit with
    | sl _ _ _ q1 q2 q3 =>
      refine rows_of rowK _ fun el he => ?_
      have hlen := q2 el he
      match el, hlen with
      | [x, y, z], _ =>
        have f0 := q3 _ he 0 _ _ rfl rfl
        have f1 := q3 _ he 1 _ _ rfl rfl
        have f2 := q3 _ he 2 _ _ rfl rfl
        cases f0 with
        | int _ n hn =>
          cases f1 with
          | str s hs =>
            cases f2 with
            | int _ k hk => exact ⟨⟨n, s, k⟩, rfl, by simp [Lit.wf, IntKind.min, IntKind.max, IntKind.bits, IntKind.signed] at hk; show 0 ≤ k ∧ k < 65536; omega⟩
  have hlen : l.length < 2 ^ 62 := by
    cases hfit with
    | sl _ _ _ q1 q2 q3 =>
      have := reachBytes_lt
      rw [hl, List.length_map] at q1
      omega
  subst hl
  clear hA hA0
  have hr := fun {n d} (hm : (n, d) ∈ Rows.lexBackRow.laid) => laidMet.reads hL hm
  have hD : DebG W := debG_of (hr (.tail _ (.head _)))
  have hG : LibG W := ⟨utf8G_of (hr (.tail _ (.tail _ (.tail _ (.tail _ (.tail _ (.tail _ (.head _)))))))) (hr (.tail _ (.tail _ (.tail _ (.head _))))), propG_of (hr (.tail _ (.tail _ (.tail _ (.tail _ (.head _)))))), letterG_of (hr (.tail _ (.tail _ (.tail _ (.tail _ (.tail _ (.head _))))))), powG_of (hr (.tail _ (.tail _ (.head _))))⟩
  have sz : ∀ s : ByteArray, s.data.toList.length ≤ reachBytes → s.size < 2 ^ 62 := fun s h => by
    have := reachBytes_lt
    rw [len_data] at h; omega
  have s0 : a.size < 2 ^ 62 := sz a (sized_string hz (j := 0) (t := 9) (by kernel_rfl) rfl)
  have hC := backLaw_ctr (gpOf W hD) (fun w hw => hG.old hw) a l s0 hlen hll
  refine (calls_of_ctr hC #[.string a, v1] rfl fun i v x hi hx => ?_).mono fun e W' ⟨he, hb⟩ => ⟨_, he, post_law rfl rfl (by kernel_rfl) hW' rfl hb⟩
  match i with
  | 0 => simp at hi hx; subst hi; subst hx; exact RA.intv _ rfl
  | 1 => simp at hi hx; subst hi; subst hx; exact .d _ _ hrd
  | n + 2 => simp at hi

noncomputable abbrev wargs : Array Value := #[.string ⟨#[]⟩, .slice none 0 0]
theorem reads (os : Os) {H : Type} (enc : TypeId × Value → H) : ∃ places, DataW.whole enc Tryd.prog (memOf os wargs) Tryd.f4.params.toList Rows.lexBackSpec.vars false wargs.toList 8 = some ([.lit (.string []), .nil], [], places) :=
  ⟨[], by kernel_rfl⟩
theorem laid_met (os : Os) : laidMet Tryd.prog Rows.lexBackRow.laid (memOf os wargs) := (laidIn7 os wargs).met

theorem lifted (os : Os) (started : os.Started) (H : Type) (enc : TypeId × Value → H) (F : Stop.Interp) :
    ReturnsInHanded {} Tryd.checked os 4 .any ((OpenSpec.ofChange Rows.lexBackSpec).preRow enc Tryd.prog Tryd.f4 Rows.lexBackRow.domain false Rows.lexBackRow.laid) (((OpenSpec.ofChange Rows.lexBackSpec).at F).post enc Tryd.prog Tryd.f4 false true false false) := by
  obtain ⟨places, hx⟩ := reads os enc
  refine returnsInHanded_of_row (C := Tryd.checked) (s := OpenSpec.ofChange Rows.lexBackSpec) own started (by kernel_rfl) Tryd.func4
    (witness_row_atRef (enc := enc) (C := Tryd.checked) false (laidWorld os) wargs rfl (by kernel_rfl) (by kernel_rfl) (by kernel_rfl)
      (OpenSpec.preRow_of_cond 8 hx (by kernel_rfl) (fun k hk => by cases hk) (by kernel_rfl) (laid_met os))) ?_
  intro W base args ds gs before hval hW _ _ hz hL _ _
  exact contract H enc W base args ds gs before hval hW hz hL

theorem said : Rows.LexBackSaid :=
  OpenClaim.holds_of_cond 4 Tryd.f4 rfl rfl rfl rfl rfl rfl rfl ⟨rfl, rfl, rfl, rfl, rfl⟩ rfl rfl rfl rfl rfl (by kernel_rfl) Tryd.func4 (by kernel_rfl)
    (of_decide_eq_true (by kernel_rfl)) (by unfold Func.isWrapper; first | (rw [if_pos (by decide +kernel)]; kernel_rfl) | (rw [if_neg (by decide +kernel)]; exact ⟨rfl, rfl⟩))
    (fun os started H enc _ F => by rw [OpenClaim.pre_eq_preRow]; exact lifted os started H enc F)

theorem plain (f : FuncId) (fn : Func) (hf : Tryd.pinned.checked.prog.funcNamed "pointsman/pointsmanlaw04.LexBack" = some f) (hfn : Tryd.pinned.checked.prog.funcs[f]? = some fn) :
    true = Tryd.pinned.checked.prog.looks [] ∧ ∀ (j : Nat) t, fn.params[j]? = some t → Tryd.pinned.checked.prog.wantsStandIn t = false := by
  obtain rfl : f = 4 := Option.some.inj ((show Tryd.prog.funcNamed "pointsman/pointsmanlaw04.LexBack" = some 4 by kernel_rfl).symm.trans hf) |>.symm
  obtain rfl : fn = Tryd.f4 := (Option.some.inj (Tryd.func4.symm.trans hfn)).symm
  refine ⟨by kernel_rfl, fun j t ht => ?_⟩
  rw [Tryd.params4] at ht
  have h := Array.mem_of_getElem? ht
  simp at h
  rcases h with rfl | rfl
  · exact (show Tryd.prog.wantsStandIn 9 = false by kernel_rfl)
  · exact (show Tryd.prog.wantsStandIn 42 = false by kernel_rfl)

/-- The card. -/
theorem card : Rows.LexBackCardSaid :=
  Claim7.holds_tied_plain_at .later [] _ _ _ _ said (fun _ h => by cases h) (by kernel_rfl) (fun _ h => by cases h) lexBack_row_tie rfl ⟨rfl, rfl⟩ (by kernel_rfl) rfl plain (by kernel_rfl)
end Go.Proofs.YtjokajidcojlmaaDoor.lexBack
