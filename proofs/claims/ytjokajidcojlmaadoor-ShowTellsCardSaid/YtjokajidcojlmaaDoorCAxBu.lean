import Derived.Test.YtjokajidcojlmaaDoorCAxLib
import Derived.Lib.Builder
import Derived.ProofKit
import Derived.WalkKit
import Derived.Test.YtjokajidcojlmaaDoorCAxV

/- strings.Builder: copyCheck, at any block that bears a builder. -/
namespace Go.Ax
open Go.Proofs Go.RowKit Go.Shelf

theorem infoB : ∃ j, Tryd.prog.info? 108 = some j ∧ j.size = 2 := by
  have h : (Tryd.prog.info? 108).map (·.size) = some 2 := by kernel_rfl
  obtain ⟨j, hj, hs⟩ := Option.map_eq_some_iff.1 h
  exact ⟨j, hj, hs⟩

set_option maxHeartbeats 1000000 in
set_option maxRecDepth 100000 in
/-- At a builder that was written to nothing turns. -/
theorem copyCheck_used (b : Nat) (w : World) (h0 : w.cell? ⟨b, 0, none⟩ = some (.pointer (some ⟨b, 0, none⟩))) :
    Calls Tryd.prog 122 #[.pointer (some ⟨b, 0, none⟩)] w fun e w' => e = .returned (.tuple #[]) ∧ w' = w := by
  obtain ⟨j, hj, _⟩ := infoB
  go_enter Tryd.func122, Tryd.ntmps122
  go_wp2
  rw [Lib.run_neq_ptr_same w _ Tryd.underlying106 hj]
  go_wp2
  go_end0
  exact ⟨rfl, rfl⟩

set_option maxHeartbeats 1000000 in
set_option maxRecDepth 100000 in
/-- At a builder that nothing was written to, in a block of whatever type, its own address is stored. -/
theorem copyCheck_fresh (T : TypeId) (hT : liesAt Tryd.prog Tryd.prog.depth T (2 / Tryd.prog.cellsOf T) 0 108 1 = true) (b : Nat) (w : World) (h0 : w.cell? ⟨b, 0, none⟩ = some (.pointer none)) (hsh : w.shape? b = some (T, 2)) (hfz : w.frozen? ⟨b, 0, none⟩ = false) :
    Calls Tryd.prog 122 #[.pointer (some ⟨b, 0, none⟩)] w fun e w' => e = .returned (.tuple #[]) ∧ w' = w.setCell ⟨b, 0, none⟩ (.pointer (some ⟨b, 0, none⟩)) := by
  obtain ⟨j, hj, hjs⟩ := infoB
  go_enter Tryd.func122, Tryd.ntmps122
  go_wp2
  rw [Lib.run_to_unsafe w ⟨b, 0, none⟩ Tryd.underlying106 Tryd.underlying198 hj (by rw [hjs]; decide) hsh (Nat.zero_lt_succ 1)]
  simp only [Result.andThen]
  rw [Oper.upon_value]
  go_wp2
  rw [run_callFunc_extern Tryd.func151 (by kernel_rfl) (by kernel_rfl) (by kernel_rfl) (e := Extern.AbiNoEscape.same) (by kernel_rfl)]
  rw [Lib.run_noEscape]
  simp only [Result.andThen]
  rw [Oper.upon_value]
  go_wp2
  rw [Lib.run_from_unsafe w ⟨b, 0, none⟩ Tryd.underlying198 Tryd.underlying106 hj hsh hT]
  simp only [Result.andThen]
  rw [Oper.upon_value]
  go_wp2
  go_end0
  exact ⟨rfl, rfl⟩
end Go.Ax

/- strings.Builder: contracts of its methods. -/
namespace Go.Ax
open Go.Proofs Go.RowKit Go.Shelf
set_option maxRecDepth 10000

def zB : List D := [.v (.pointer none), .v (.slice none 0 0)]

theorem lkH_two {q r1 r2 : Nat} {o1 o2 o : AObj} (h : lkH q [(r1, some o1), (r2, some o2)] = some o) : (q = r1 ∧ o = o1) ∨ (q = r2 ∧ o = o2) := by
  simp only [lkH] at h
  split at h
  · rename_i hb; injection h with h; exact .inl ⟨(Nat.eq_of_beq_eq_true hb).symm, h.symm⟩
  · split at h
    · rename_i hb; injection h with h; exact .inr ⟨(Nat.eq_of_beq_eq_true hb).symm, h.symm⟩
    · simp at h
theorem lkH_one {q r1 : Nat} {o1 o : AObj} (h : lkH q [(r1, some o1)] = some o) : q = r1 ∧ o = o1 := by
  simp only [lkH] at h
  split at h
  · rename_i hb; injection h with h; exact ⟨(Nat.eq_of_beq_eq_true hb).symm, h.symm⟩
  · simp at h

theorem after_same {w : World} {Im : Nat → Prop} {ρ : Nat → Option Loc} {hin : HL} (hIm : ∀ b, Im b → b < w.heap.size) (hrel : HRel w Im ρ hin (fun _ => True)) (hcl : ∀ r o, lkH r hin = some o → ClosedO hin o) : After w Im ρ hin w Im ρ hin where
  grows := Grows.refl w _
  im := fun b hb => hb
  imn := fun b hb => ⟨hIm b hb, .inl hb⟩
  rel := ⟨fun r o hr => let ⟨l, h1, h2, h3⟩ := hrel.obj r o hr; ⟨l, h1, h2, fun b hb => ⟨(h3 b hb).1, (h3 b hb).2.1, .inr ⟨r, o, l, hr, h1, hb⟩⟩⟩, hrel.dis⟩
  anc := fun r o hr l' hl' => ⟨l', hl', .inl rfl⟩
  cl := hcl

theorem ra_tup0 {h : Nat → Option Obj} {Im : Nat → Prop} {ρ : Nat → Option Loc} : RA h Im ρ (.tuple #[]) (.tup []) := .tup _ _ rfl (by simp)
theorem ra_arg0 {h : Nat → Option Obj} {Im : Nat → Prop} {ρ : Nat → Option Loc} {vs : Array Value} {args : List AV} (hsz : vs.size = args.length) (hra : ∀ (i : Nat) (v : Value) (x : AV), vs[i]? = some v → args[i]? = some x → RA h Im ρ v x) {i : Nat} {x : AV} (hx : args[i]? = some x) : ∃ v, vs[i]? = some v ∧ RA h Im ρ v x := by
  have hi : i < vs.size := by rw [hsz]; exact (List.getElem?_eq_some_iff.1 hx).1
  exact ⟨vs[i], Array.getElem?_eq_getElem hi, hra i _ x (Array.getElem?_eq_getElem hi) hx⟩

abbrev bvar (n : Nat) : AObj := .var [.ptr 9000 0, .msl 9001 n 0 n]

theorem checkUsed_ctr (g : GP) (n : Nat) (els : List (List D)) : Ctr (ax g).E 122 [.ptr 9000 0] [(9000, some (bvar n)), (9001, some (.buf 1 5 els))] (fun o => o = .ret (.tup []) [(9000, some (bvar n)), (9001, some (.buf 1 5 els))]) := by
  refine ⟨⟨_, Tryd.func122, rfl, by decide +kernel⟩, fun w Im ρ vs hG hIm hgl hsz hra hrel => ?_⟩
  obtain ⟨l, hl, hro, _⟩ := hrel.obj 9000 (bvar n) rfl
  obtain ⟨v, hv, hr⟩ := ra_arg0 hsz hra (i := 0) rfl
  obtain ⟨h1, h2, b, ms, t, h3, h4, h5, h6⟩ := hro
  have hvp : v = .pointer (some ⟨b, 0, none⟩) := by
    cases hr with
    | ptr _ _ _ _ hp =>
      obtain ⟨_, b', q1, q2⟩ := hp l hl
      rw [h3] at q1; injection q1 with q1; subst q1; exact q2
  have hvs : vs = #[.pointer (some ⟨b, 0, none⟩)] := by
    apply Array.ext (by simpa using hsz)
    intro i i1 i2
    simp at i2; subst i2
    rw [Array.getElem?_eq_getElem i1] at hv
    injection hv with hv; rw [hv, hvp]; rfl
  have hm0 : ms[0]? = some (.pointer (some ⟨b, 0, none⟩)) := by
    have h5 : ms.size = 2 := h5
    obtain ⟨u, hu⟩ : ∃ u, ms[0]? = some u := ⟨_, Array.getElem?_eq_getElem (by omega)⟩
    obtain ⟨r1, _⟩ := h6 0 u hu (.ptr 9000 0) rfl
    rw [hu]
    cases r1 with
    | ptr _ _ _ _ hp =>
      obtain ⟨_, b', q1, q2⟩ := hp l hl
      rw [h3] at q1; injection q1 with q1; subst q1; rw [q2]
  have hc : w.cell? ⟨b, 0, none⟩ = some (.pointer (some ⟨b, 0, none⟩)) := by rw [Lib.cell_of_heap h4]; exact hm0
  rw [hvs]
  refine (copyCheck_used b w hc).mono fun e w' ⟨he, hw⟩ => ?_
  subst he; subst hw
  refine ⟨_, _, Im, ρ, rfl, ra_tup0, fun r hr => by simp [AV.ment, AV.ment.mentL] at hr, after_same hIm hrel fun r o hr => ?_⟩
  rcases lkH_two hr with ⟨rfl, rfl⟩ | ⟨rfl, rfl⟩
  · intro q hq
    simp [AObj.ment, AV.ment.mentL, AV.ment] at hq
    rcases hq with rfl | rfl <;> rfl
  · intro q hq; simp [AObj.ment] at hq

/-- A builder may lie at the head of such a block. -/
def BldT (T : TypeId) : Prop := liesAt Tryd.prog Tryd.prog.depth T (2 / Tryd.prog.cellsOf T) 0 108 1 = true
theorem bldT108 : BldT 108 := by unfold BldT; kernel_rfl
theorem bldT110 : BldT 110 := by unfold BldT; kernel_rfl

theorem checkFresh_ctr (g : GP) (T : TypeId) (hT : BldT T) : Ctr (ax g).E 122 [.ptr 9000 0] [(9000, some (.tvar T zB))] (fun o => o = .ret (.tup []) [(9000, some (bvar 0)), (9001, some (.buf 1 5 []))]) := by
  refine ⟨⟨_, Tryd.func122, rfl, by decide +kernel⟩, fun w Im ρ vs hG hIm hgl hsz hra hrel => ?_⟩
  obtain ⟨l, hl, hro, hown⟩ := hrel.obj 9000 (.tvar T zB) rfl
  obtain ⟨v, hv, hr⟩ := ra_arg0 hsz hra (i := 0) rfl
  obtain ⟨h1, h2, b, ms, h3, h4, h5, h6⟩ := hro
  have hvp : v = .pointer (some ⟨b, 0, none⟩) := by
    cases hr with
    | ptr _ _ _ _ hp =>
      obtain ⟨_, b', q1, q2⟩ := hp l hl
      rw [h3] at q1; injection q1 with q1; subst q1; exact q2
  have hvs : vs = #[.pointer (some ⟨b, 0, none⟩)] := by
    apply Array.ext (by simpa using hsz)
    intro i i1 i2
    simp at i2; subst i2
    rw [Array.getElem?_eq_getElem i1] at hv
    injection hv with hv; rw [hv, hvp]; rfl
  have h5 : ms.size = 2 := h5
  have hm0 : ms[0]? = some (.pointer none) := by
    have h0 : 0 < ms.size := by omega
    have := (h6 0 ms[0] _ (Array.getElem?_eq_getElem h0) rfl).bool
    rw [Array.getElem?_eq_getElem h0, this]
  have hm1 : ms[1]? = some (.slice none 0 0) := by
    have h0 : 1 < ms.size := by omega
    have := (h6 1 ms[1] _ (Array.getElem?_eq_getElem h0) rfl).bool
    rw [Array.getElem?_eq_getElem h0, this]
  have hb : b < w.heap.size := (Array.getElem?_eq_some_iff.1 h4).1
  have hc : w.cell? ⟨b, 0, none⟩ = some (.pointer none) := by rw [Lib.cell_of_heap h4]; exact hm0
  have hsh : w.shape? b = some (T, 2) := by
    have h4' : w.heap[b]? = some (.cells ms T (0, 0)) := h4
    simp [World.shape?, h4', h5]
  have hfz : w.frozen? ⟨b, 0, none⟩ = false := by
    have h4' : w.heap[b]? = some (.cells ms T (0, 0)) := h4
    simp [World.frozen?, h4']
  rw [hvs]
  refine (copyCheck_fresh T hT b w hc hsh hfz).mono fun e w' ⟨he, hw⟩ => ?_
  subst he
  have hset : w'.heap[b]? = some (.cells (ms.setIfInBounds 0 (.pointer (some ⟨b, 0, none⟩))) T (0, 0)) := by
    have h4' : w.heap[b]? = some (.cells ms T (0, 0)) := h4
    subst hw
    simp [World.setCell, Array.getElem?_modify, h4']
  have hoth : ∀ k, k ≠ b → w'.heap[k]? = w.heap[k]? := fun k hk => by
    subst hw; exact Below.heap_setCell w ⟨b, 0, none⟩ _ k hk
  have hws : w'.heap.size = w.heap.size := by subst hw; simp [World.setCell]
  have hwo : w'.os = w.os ∧ w'.tape = w.tape ∧ w'.output = w.output := by subst hw; exact ⟨rfl, rfl, rfl⟩
  clear hw
  have hbT : TIn ρ [(9000, some (.tvar T zB))] b := ⟨9000, _, l, rfl, hl, by simp [Loc.fp, h3]⟩
  have hlfp : l.fp = [b] := by simp [Loc.fp, h3, h2]
  let lb : Loc := { blk := none, isBuf := true, sz := 1 }
  have e1 : upd ρ 9001 (some lb) 9000 = some l := by rw [upd_ne _ _ (by decide)]; exact hl
  have e2 : upd ρ 9001 (some lb) 9001 = some lb := upd_same ..
  refine ⟨.tup [], _, Im, upd ρ 9001 (some lb), rfl, ra_tup0, fun r hr => by simp [AV.ment, AV.ment.mentL] at hr, ?_⟩
  refine ⟨⟨by omega, hwo.1, hwo.2.1, hwo.2.2, fun k hk hn => hoth k fun h => hn (by subst h; exact hbT)⟩, fun k hk => hk, fun k hk => ⟨by rw [hws]; exact hIm k hk, .inl hk⟩, ⟨fun r o hr => ?_, fun r r' o o' l1 l2 q1 q2 hne p1 p2 k hk hk' => ?_⟩, fun r o hr l' hl' => ?_, fun r o hr => ?_⟩
  · rcases lkH_two hr with ⟨rfl, rfl⟩ | ⟨rfl, rfl⟩
    · refine ⟨l, e1, ⟨h1, h2, b, _, T, h3, hset, by simp [h5], fun i u hu x hx => ?_⟩, fun k hk => ?_⟩
      · match i, hx with
        | 0, hx =>
          have hu : u = .pointer (some ⟨b, 0, none⟩) := by
            have : 0 < ms.size := by omega
            simpa [Array.getElem?_setIfInBounds, this] using hu.symm
          simp at hx; subst hx; subst hu
          exact ⟨.ptr _ _ _ rfl fun l' hl' => by rw [e1] at hl'; injection hl' with hl'; subst hl'; exact ⟨h1, b, h3, rfl⟩, rfl⟩
        | 1, hx =>
          have hu : u = .slice none 0 0 := by
            rw [Array.getElem?_setIfInBounds_ne (by decide), hm1] at hu
            injection hu with hu; exact hu.symm
          simp at hx; subst hx; subst hu
          exact ⟨.msl _ _ _ _ _ rfl fun l' hl' => by rw [e2] at hl'; injection hl' with hl'; subst hl'; exact ⟨by simp [lb], fun _ => rfl⟩, rfl⟩
        | n + 2, hx => simp at hx
      · rw [hlfp] at hk; simp at hk; subst hk
        exact ⟨by omega, (hown k (by rw [hlfp]; simp)).2.1, .inr hbT⟩
    · exact ⟨lb, e2, ⟨rfl, rfl, rfl, rfl, by simp, .inl ⟨rfl, rfl, rfl⟩⟩, by simp [lb, Loc.fp]⟩
  · rcases lkH_two q1 with ⟨rfl, rfl⟩ | ⟨rfl, rfl⟩
    · rcases lkH_two q2 with ⟨rfl, rfl⟩ | ⟨rfl, rfl⟩
      · exact hne rfl
      · rw [e2] at p2; injection p2 with p2; subst p2; simp [lb, Loc.fp] at hk'
    · rw [e2] at p1; injection p1 with p1; subst p1; simp [lb, Loc.fp] at hk
  · obtain ⟨rfl, rfl⟩ := lkH_one hr
    rw [e1] at hl'; injection hl' with hl'; subst hl'
    exact ⟨l, hl, .inl rfl⟩
  · rcases lkH_two hr with ⟨rfl, rfl⟩ | ⟨rfl, rfl⟩
    · intro q hq
      simp [AObj.ment, AV.ment.mentL, AV.ment] at hq
      rcases hq with rfl | rfl <;> rfl
    · intro q hq; simp [AObj.ment] at hq
end Go.Ax

/- strings.Builder: what is written, and the text. -/
namespace Go.Ax
open Go.Proofs Go.RowKit Go.Shelf
set_option maxRecDepth 10000

/-- A call that changes two objects. -/
theorem CallP.two {E : Env} {k : Kn} {f : FuncId} {args : List AV} {s : St} {K : AV → HL → Prop} {KP : List PanicEntry → HL → Prop} {res : AV} {r1 r2 : Nat} {o1 o2 o1' o2' : AObj} (h1 : lkH r1 s.h = some o1) (h2 : lkH r2 s.h = some o2)
    (h : Ctr E f args [(r1, some o1), (r2, some o2)] fun o => o = .ret res [(r1, some o1'), (r2, some o2')]) (hk : K res ((r1, some o1') :: (r2, some o2') :: (r1, none) :: (r2, none) :: s.h)) : CallP E k f args s K KP :=
  ⟨_, _, h, fun r o hr => by rcases lkH_two hr with ⟨rfl, rfl⟩ | ⟨rfl, rfl⟩; exact h1; exact h2, fun res' ho e => by
    injection e with e1 e2; subst e1; subst e2
    refine ⟨fun r o hr => .inl ?_, hk⟩
    rcases lkH_two hr with ⟨rfl, rfl⟩ | ⟨rfl, rfl⟩
    · exact ⟨o1, by simp [lkH]⟩
    · by_cases hr : r1 = r
      · subst hr; exact ⟨o1, by simp [lkH]⟩
      · have : Nat.beq r1 r = false := by
          cases hb : Nat.beq r1 r with
          | false => rfl
          | true => exact absurd (Nat.eq_of_beq_eq_true hb) hr
        exact ⟨o2, by simp [lkH, this]⟩, fun ch ho e => by simp at e⟩
/-- .. that changes one and makes another one. -/
theorem CallP.oneTwo {E : Env} {k : Kn} {f : FuncId} {args : List AV} {s : St} {K : AV → HL → Prop} {KP : List PanicEntry → HL → Prop} {res : AV} {r1 r2 : Nat} {o1 o1' o2' : AObj} (h1 : lkH r1 s.h = some o1) (h2 : unmB k.anc r2 s = true)
    (h : Ctr E f args [(r1, some o1)] fun o => o = .ret res [(r1, some o1'), (r2, some o2')]) (hk : K res ((r1, some o1') :: (r2, some o2') :: (r1, none) :: s.h)) : CallP E k f args s K KP :=
  ⟨_, _, h, fun r o hr => by obtain ⟨rfl, rfl⟩ := lkH_one hr; exact h1, fun res' ho e => by
    injection e with e1 e2; subst e1; subst e2
    refine ⟨fun r o hr => ?_, hk⟩
    rcases lkH_two hr with ⟨rfl, rfl⟩ | ⟨rfl, rfl⟩
    · exact .inl ⟨o1, by simp [lkH]⟩
    · exact .inr h2, fun ch ho e => by simp at e⟩

theorem bsRow_app (a b : ByteArray) : bsRow (a ++ b) = bsRow a ++ bsRow b := by simp [bsRow, ByteArray.data_append]
abbrev bbuf (bs : ByteArray) : AObj := .buf 1 5 (bsRow bs)
theorem writeUsed_ctr (g : GP) (bs s : ByteArray) (hs : bs.size + s.size ≤ 140737488355328) : Ctr (ax g).E 76 [.ptr 9000 0, .str s] [(9000, some (bvar bs.size)), (9001, some (bbuf bs))] (fun o => o = .ret (.tup [.i64 s.size, .d (.v .nilIface)]) [(9000, some (bvar (bs ++ s).size)), (9001, some (bbuf (bs ++ s)))]) := by
  refine Ctr.body (X := ax g) _ 19 [9000, 9001] [.tmp 4, .tmp 5] Tryd.func76 rfl rfl rfl rfl (by decide +kernel) rfl rfl ?_
  conv => whnf
  refine CallP.two rfl rfl (checkUsed_ctr g bs.size (bsRow bs)) ?_
  conv => whnf
  refine And.intro rfl ?_
  refine And.intro (bsRow_len bs).symm ?_
  refine And.intro (by rw [bsRow_len]; exact hs) ?_
  conv => whnf
  refine ⟨⟨[(9000, some (bvar (bs ++ s).size)), (9001, some (bbuf (bs ++ s)))], ?_⟩⟩
  conv => whnf
  refine And.intro ⟨fun o h => ?_, fun o h => ?_, trivial⟩ ?_
  · rw [← h]
    show some (AObj.var [.ptr 9000 0, .msl 9001 ((bsRow bs).length + s.size) 0 ((bsRow bs).length + s.size)]) = some (bvar (bs ++ s).size)
    rw [bsRow_len, ByteArray.size_append]
  · rw [← h]
    show some (AObj.buf 1 5 (bsRow bs ++ bsRow s)) = some (bbuf (bs ++ s))
    rw [← bsRow_app]
  · rfl
theorem writeFresh_ctr (g : GP) (T : TypeId) (hT : BldT T) (s : ByteArray) (hs : s.size ≤ 140737488355328) : Ctr (ax g).E 76 [.ptr 9000 0, .str s] [(9000, some (.tvar T zB))] (fun o => o = .ret (.tup [.i64 s.size, .d (.v .nilIface)]) [(9000, some (bvar s.size)), (9001, some (bbuf s))]) := by
  refine Ctr.body (X := ax g) _ 19 [9000] [.tmp 4, .tmp 5] Tryd.func76 rfl rfl rfl rfl (by decide +kernel) rfl rfl ?_
  conv => whnf
  refine CallP.oneTwo rfl rfl (checkFresh_ctr g T hT) ?_
  conv => whnf
  refine And.intro rfl ?_
  refine And.intro rfl ?_
  refine And.intro (by show 0 + s.size ≤ _; omega) ?_
  conv => whnf
  refine ⟨⟨[(9000, some (bvar s.size)), (9001, some (bbuf s))], ?_⟩⟩
  conv => whnf
  refine And.intro ⟨fun o h => ?_, fun o h => h, trivial⟩ ?_
  · rw [← h]
    show some (AObj.var [.ptr 9000 0, .msl 9001 (0 + s.size) 0 (0 + s.size)]) = some (bvar s.size)
    rw [Nat.zero_add]
  · rfl

def oneB (b : UInt8) : ByteArray := ⟨#[b]⟩
theorem byteUsed_ctr (g : GP) (bs : ByteArray) (b : UInt8) (hs : bs.size + 1 ≤ 140737488355328) : Ctr (ax g).E 119 [.ptr 9000 0, .d (.v (.int .u8 b.toNat))] [(9000, some (bvar bs.size)), (9001, some (bbuf bs))] (fun o => o = .ret (.d (.v .nilIface)) [(9000, some (bvar (bs ++ oneB b).size)), (9001, some (bbuf (bs ++ oneB b)))]) := by
  refine Ctr.body (X := ax g) _ 17 [9000, 9001] [.tmp 4] Tryd.func119 rfl rfl rfl rfl (by decide +kernel) rfl rfl ?_
  conv => whnf
  refine CallP.two rfl rfl (checkUsed_ctr g bs.size (bsRow bs)) ?_
  conv => whnf
  repeat (refine And.intro (by first | exact rfl | decide | exact Nat.le_of_ble_eq_true rfl | exact ⟨_, rfl⟩ | exact ⟨_, _, rfl⟩ | exact Nat.le_refl _ | exact Int.le_refl _ | omega | (simp only [List.length_map]; omega)) ?_; conv => whnf)
  refine And.intro (bsRow_len bs).symm ?_
  refine And.intro rfl ?_
  refine And.intro (by show ((bsRow bs).length + 1) * 1 ≤ _; rw [bsRow_len]; omega) ?_
  conv => whnf
  refine ⟨⟨[(9000, some (bvar (bs ++ oneB b).size)), (9001, some (bbuf (bs ++ oneB b)))], ?_⟩⟩
  conv => whnf
  refine And.intro ⟨fun o h => ?_, fun o h => ?_, trivial⟩ ?_
  · rw [← h]
    show some (AObj.var [.ptr 9000 0, .msl 9001 ((bsRow bs).length + 1) 0 ((bsRow bs).length + 1)]) = some (bvar (bs ++ oneB b).size)
    rw [bsRow_len, ByteArray.size_append]; rfl
  · rw [← h]
    show some (AObj.buf 1 5 (bsRow bs ++ bsRow (oneB b))) = some (bbuf (bs ++ oneB b))
    rw [← bsRow_app]
  · rfl
theorem byteFresh_ctr (g : GP) (T : TypeId) (hT : BldT T) (b : UInt8) : Ctr (ax g).E 119 [.ptr 9000 0, .d (.v (.int .u8 b.toNat))] [(9000, some (.tvar T zB))] (fun o => o = .ret (.d (.v .nilIface)) [(9000, some (bvar (oneB b).size)), (9001, some (bbuf (oneB b)))]) := by
  refine Ctr.body (X := ax g) _ 17 [9000] [.tmp 4] Tryd.func119 rfl rfl rfl rfl (by decide +kernel) rfl rfl ?_
  conv => whnf
  refine CallP.oneTwo rfl rfl (checkFresh_ctr g T hT) ?_
  conv => whnf
  repeat (refine And.intro (by first | exact rfl | decide | exact Nat.le_of_ble_eq_true rfl | exact ⟨_, rfl⟩ | exact ⟨_, _, rfl⟩ | exact Nat.le_refl _ | exact Int.le_refl _ | omega | (simp only [List.length_map]; omega)) ?_; conv => whnf)
  refine ⟨⟨[(9000, some (bvar (oneB b).size)), (9001, some (bbuf (oneB b)))], ?_⟩⟩
  conv => whnf
  refine And.intro ⟨fun o h => h, fun o h => h, trivial⟩ ?_
  rfl

/-! ### the text -/
set_option maxHeartbeats 2000000 in
set_option maxRecDepth 100000 in
theorem string_used (b g cap : Nat) (p : Value) (cur : Array Value) (T : TypeId) (l : List UInt8) (w : World) (hb : w.heap[b]? = some (.cells #[p, .slice (some ⟨g, 0, none⟩) l.length cap] T (0, 0))) (hg : w.heap[g]? = some (.cells cur 5 (0, 0)))
    (hcell : ∀ (j : Nat) (x : UInt8), l[j]? = some x → cur[j]? = some (.int .u8 x.toNat)) (h0 : l ≠ []) (hle : l.length ≤ cap) (hcur : cur.size = cap) (h63 : cap ≤ maxLen) :
    Calls Tryd.prog 74 #[.pointer (some ⟨b, 0, none⟩)] w fun e w' => e = .returned (.string ⟨l.toArray⟩) ∧ w' = w.drew.freeze ⟨g, 0, none⟩ l.length := by
  have hl0 : 0 < l.length := List.length_pos_iff.2 h0
  have c1 : w.drew.cell? ⟨b, 1, none⟩ = some (.slice (some ⟨g, 0, none⟩) l.length cap) := by
    have : w.drew.heap[b]? = some (.cells #[p, .slice (some ⟨g, 0, none⟩) l.length cap] T (0, 0)) := hb
    rw [Lib.cell_of_heap this]; rfl
  have hSD : (Builtin.unsafeSliceData_ #[73] 171 #[.slice (some ⟨g, 0, none⟩) l.length cap]).run Tryd.prog w.drew = .ok (.pointer (some ⟨g, 0, none⟩)) w.drew :=
    Lib.run_unsafeSliceData_row _ _ _ _ _ _ (by omega)
  have hg' : w.drew.heap[g]? = some (.cells cur 5 (0, 0)) := hg
  have hUS : (Builtin.unsafeString_ #[171, 3] 9 #[.pointer (some ⟨g, 0, none⟩), .int .i64 l.length]).run Tryd.prog w.drew = .ok (.string ⟨l.toArray⟩) (w.drew.freeze ⟨g, 0, none⟩ l.length) := by
    refine Lib.run_unsafeString_row w.drew 171 3 9 5 Tryd.underlying171 (by kernel_rfl) g cur.size (by simp [World.shape?, hg']) l h0 (by omega) (by unfold maxLen at h63; omega) ?_
    intro j x hx
    have : ((⟨g, 0, none⟩ : Addr).add j) = ⟨g, j, none⟩ := by unfold Addr.add; split <;> simp_all
    rw [this, Lib.cell_of_heap hg']
    exact hcell j x hx
  have mixed := Tryd.mixed
  go_enter Tryd.func74, Tryd.ntmps74
  go_wp2
  go_region_o
  all_goals (go_wp2; go_ret; exact ⟨rfl, rfl⟩)

set_option maxHeartbeats 2000000 in
set_option maxRecDepth 100000 in
theorem string_fresh (b : Nat) (p : Value) (T : TypeId) (w : World) (hb : w.heap[b]? = some (.cells #[p, .slice none 0 0] T (0, 0))) :
    Calls Tryd.prog 74 #[.pointer (some ⟨b, 0, none⟩)] w fun e w' => e = .returned (.string ⟨#[]⟩) ∧ w' = w.drew := by
  have c1 : w.drew.cell? ⟨b, 1, none⟩ = some (.slice none 0 0) := by
    have : w.drew.heap[b]? = some (.cells #[p, .slice none 0 0] T (0, 0)) := hb
    rw [Lib.cell_of_heap this]; rfl
  have hSD : (Builtin.unsafeSliceData_ #[73] 171 #[.slice none 0 0]).run Tryd.prog w.drew = .ok (.pointer none) w.drew := rfl
  have hUS : ∀ W, (Builtin.unsafeString_ #[171, 3] 9 #[.pointer none, .int .i64 0]).run Tryd.prog W = .ok (.string .empty) W := fun W => Lib.run_unsafeString_none W _ _ _ none
  have mixed := Tryd.mixed
  go_enter Tryd.func74, Tryd.ntmps74
  go_wp2
  go_region_o
  all_goals (go_wp2; go_ret; exact ⟨rfl, rfl⟩)

theorem two_cells {ms : Array Value} {x y : Value} (h : ms.size = 2) (h0 : ms[0]? = some x) (h1 : ms[1]? = some y) : ms = #[x, y] := by
  apply Array.ext (by simpa using h)
  intro i i1 i2
  match i, i2 with
  | 0, _ => exact Option.some.inj ((Array.getElem?_eq_getElem i1).symm.trans h0)
  | 1, _ => exact Option.some.inj ((Array.getElem?_eq_getElem i1).symm.trans h1)

theorem stringFresh_ctr (g : GP) (T : TypeId) : Ctr (ax g).E 74 [.ptr 9000 0] [(9000, some (.tvar T zB))] (fun o => o = .ret (.str ⟨#[]⟩) []) := by
  refine ⟨⟨_, Tryd.func74, rfl, by decide +kernel⟩, fun w Im ρ vs hG hIm hgl hsz hra hrel => ?_⟩
  obtain ⟨l, hl, hro, hown⟩ := hrel.obj 9000 (.tvar T zB) rfl
  obtain ⟨v, hv, hr⟩ := ra_arg0 hsz hra (i := 0) rfl
  obtain ⟨h1, h2, b, ms, h3, h4, h5, h6⟩ := hro
  have hvp : v = .pointer (some ⟨b, 0, none⟩) := by
    cases hr with
    | ptr _ _ _ _ hp =>
      obtain ⟨_, b', q1, q2⟩ := hp l hl
      rw [h3] at q1; injection q1 with q1; subst q1; exact q2
  have hvs : vs = #[.pointer (some ⟨b, 0, none⟩)] := by
    apply Array.ext (by simpa using hsz)
    intro i i1 i2
    simp at i2; subst i2
    rw [Array.getElem?_eq_getElem i1] at hv
    injection hv with hv; rw [hv, hvp]; rfl
  have h5 : ms.size = 2 := h5
  have hm0 : ms[0]? = some (.pointer none) := by
    have h0 : 0 < ms.size := by omega
    have := (h6 0 ms[0] _ (Array.getElem?_eq_getElem h0) rfl).bool
    rw [Array.getElem?_eq_getElem h0, this]
  have hm1 : ms[1]? = some (.slice none 0 0) := by
    have h0 : 1 < ms.size := by omega
    have := (h6 1 ms[1] _ (Array.getElem?_eq_getElem h0) rfl).bool
    rw [Array.getElem?_eq_getElem h0, this]
  rw [hvs]
  refine (string_fresh b _ T w (by rw [← two_cells h5 hm0 hm1]; exact h4)).mono fun e w' ⟨he, hw⟩ => ?_
  subst he; subst hw
  exact ⟨_, [], Im, fun _ => none, rfl, RA.intv _ rfl, fun r hr => by simp [AV.ment] at hr, ⟨Grows.drew w _, fun b hb => hb, fun b hb => ⟨hIm b hb, .inl hb⟩, ⟨fun r o hr => by simp [lkH] at hr, fun r r' o o' l l' hr => by simp [lkH] at hr⟩, fun r o hr l' hl' => by simp at hl', fun r o hr => by simp [lkH] at hr⟩⟩

theorem stringUsed_ctr (g : GP) (bs : ByteArray) (hne : bs.size ≠ 0) : Ctr (ax g).E 74 [.ptr 9000 0] [(9000, some (bvar bs.size)), (9001, some (bbuf bs))] (fun o => o = .ret (.str bs) []) := by
  refine ⟨⟨_, Tryd.func74, rfl, by decide +kernel⟩, fun w Im ρ vs hG hIm hgl hsz hra hrel => ?_⟩
  obtain ⟨l, hl, hro, hown⟩ := hrel.obj 9000 (bvar bs.size) rfl
  obtain ⟨l2, hl2, hro2, hown2⟩ := hrel.obj 9001 (bbuf bs) rfl
  obtain ⟨v, hv, hr⟩ := ra_arg0 hsz hra (i := 0) rfl
  obtain ⟨h1, h2, b, ms, T, h3, h4, h5, h6⟩ := hro
  have hvp : v = .pointer (some ⟨b, 0, none⟩) := by
    cases hr with
    | ptr _ _ _ _ hp =>
      obtain ⟨_, b', q1, q2⟩ := hp l hl
      rw [h3] at q1; injection q1 with q1; subst q1; exact q2
  have hvs : vs = #[.pointer (some ⟨b, 0, none⟩)] := by
    apply Array.ext (by simpa using hsz)
    intro i i1 i2
    simp at i2; subst i2
    rw [Array.getElem?_eq_getElem i1] at hv
    injection hv with hv; rw [hv, hvp]; rfl
  have h5 : ms.size = 2 := h5
  have hlen : l2.len = (bsRow bs).length := hro2.2.2.2.1
  have hsub := hro2.sub_eq
  rcases hro2.2.2.2.2.2 with ⟨_, q2, _⟩ | ⟨q, cur, q1, q2, q3, q4, q5, q6⟩
  · exact absurd (by rw [← bsRow_len, q2]; rfl) hne
  · obtain ⟨u, hu⟩ : ∃ u, ms[1]? = some u := ⟨_, Array.getElem?_eq_getElem (by omega)⟩
    obtain ⟨p, hp0⟩ : ∃ p, ms[0]? = some p := ⟨_, Array.getElem?_eq_getElem (by omega)⟩
    have hm1 : u = .slice (some ⟨q, 0, none⟩) bs.size l2.cap := by
      obtain ⟨r1, _⟩ := h6 1 u hu _ rfl
      cases r1 with
      | msl _ _ _ _ _ _ hp =>
        have := (hp l2 hl2).2 (by rw [hlen, bsRow_len])
        rw [bsRow_len] at hsub
        rw [this, hsub]; simp [Loc.addr, q1]
    have hlb : bs.data.toList.length = bs.size := by rw [Array.length_toList]; rfl
    have hb : w.heap[b]? = some (.cells #[p, .slice (some ⟨q, 0, none⟩) bs.data.toList.length l2.cap] T (0, 0)) := by
      rw [hlb, ← hm1, ← two_cells h5 hp0 hu]; exact h4
    rw [bsRow_len] at q3
    have hcell : ∀ (j : Nat) (x : UInt8), bs.data.toList[j]? = some x → cur[j]? = some (.int .u8 x.toNat) := fun j x hx => by
      obtain ⟨u, k1, k2⟩ := q6 j 0 [.v (.int .u8 x.toNat)] (.v (.int .u8 x.toNat)) (by simp only [bsRow, List.getElem?_map, hx]; rfl) rfl
      rw [Nat.mul_one, Nat.add_zero] at k1
      rw [k1, k2.bool]
    rw [hvs]
    refine (string_used b q l2.cap p cur T bs.data.toList w hb q2 hcell (fun e => hne (by rw [← hlb, e]; rfl)) (by rw [hlb]; exact q3) (by rw [q5, Nat.mul_one]) q4).mono fun e w' ⟨he, hw⟩ => ?_
    subst he; subst hw
    have hbs : (⟨bs.data.toList.toArray⟩ : ByteArray) = bs := by simp
    rw [hbs]
    have hT : TIn ρ [(9000, some (bvar bs.size)), (9001, some (bbuf bs))] q := ⟨9001, _, l2, rfl, hl2, by simp [Loc.fp, q1]⟩
    have hgr : Grows w (w.drew.freeze ⟨q, 0, none⟩ bs.data.toList.length) (TIn ρ [(9000, some (bvar bs.size)), (9001, some (bbuf bs))]) := by
      unfold World.freeze
      split
      · exact Grows.drew w _
      · refine ⟨by simp, rfl, rfl, rfl, fun k hk hn => ?_⟩
        simp only [Array.getElem?_modify]
        rw [if_neg (fun h => hn (by have h : q = k := h; rw [← h]; exact hT))]; rfl
    exact ⟨_, [], Im, fun _ => none, rfl, RA.intv _ rfl, fun r hr => by simp [AV.ment] at hr, ⟨hgr, fun b hb => hb, fun b hb => ⟨Nat.lt_of_lt_of_le (hIm b hb) hgr.size, .inl hb⟩, ⟨fun r o hr => by simp [lkH] at hr, fun r r' o o' l l' hr => by simp [lkH] at hr⟩, fun r o hr l' hl' => by simp at hl', fun r o hr => by simp [lkH] at hr⟩⟩
end Go.Ax

/- strings.Builder as one object, whatever was written to it. -/
namespace Go.Ax
open Go.Proofs Go.RowKit Go.Shelf
set_option maxRecDepth 10000

theorem bbuf_any {h : Nat → Option Obj} {Im Im' : Nat → Prop} {ρ ρ' : Nat → Option Loc} {lb : Loc} {bs : ByteArray} (H : RO h Im ρ lb (bbuf bs)) : RO h Im' ρ' lb (bbuf bs) := by
  obtain ⟨h0, h1, h2, h3, h4, h5⟩ := H
  refine ⟨h0, h1, h2, h3, h4, ?_⟩
  rcases h5 with h5 | ⟨b, ms, g1, g2, g3, g4, g5, g6⟩
  · exact .inl h5
  · refine .inr ⟨b, ms, g1, g2, g3, g4, g5, fun i j el x e1 e2 => ?_⟩
    obtain ⟨v, k1, k2⟩ := g6 i j el x e1 e2
    refine ⟨v, k1, ?_⟩
    simp only [bsRow, List.getElem?_map, Option.map_eq_some_iff] at e1
    obtain ⟨y, _, rfl⟩ := e1
    match j, e2 with
    | 0, e2 => injection e2 with e2; subst e2; rw [k2.bool]; exact .v _ rfl
    | n + 1, e2 => simp at e2

def Bld (bs : ByteArray) (l : Loc) (h : Nat → Option Obj) : Prop :=
  ∃ b T ms, l.blk = some b ∧ h b = some (.cells ms T (0, 0)) ∧ ms.size = 2 ∧
    ((bs.size = 0 ∧ BldT T ∧ l.more = [] ∧ ms[0]? = some (.pointer none) ∧ ms[1]? = some (.slice none 0 0)) ∨
     (bs.size ≠ 0 ∧ ms[0]? = some (.pointer (some ⟨b, 0, none⟩)) ∧ ∃ lb : Loc, l.more = lb.fp ∧ b ∉ lb.fp ∧ ms[1]? = some (lb.sub 0 bs.size) ∧ RO h (fun _ => False) (fun _ => none) lb (bbuf bs)))
theorem Bld.keep {bs : ByteArray} {l : Loc} (h h' : Nat → Option Obj) (hh : ∀ b ∈ l.fp, h' b = h b) (H : Bld bs l h) : Bld bs l h' := by
  obtain ⟨b, T, ms, h1, h2, h3, h4⟩ := H
  refine ⟨b, T, ms, h1, by rw [hh b (by simp [Loc.fp, h1])]; exact h2, h3, ?_⟩
  rcases h4 with h4 | ⟨h4, h5, lb, h6, h7, h8, h9⟩
  · exact .inl h4
  · exact .inr ⟨h4, h5, lb, h6, h7, h8, RO.mono (fun _ h => h) (fun _ h => h.elim) (fun k hk => hh k (List.mem_append.2 (.inr (by rw [h6]; exact hk)))) (fun r hr => by simp [AObj.ment] at hr) h9⟩
abbrev bldO (bs : ByteArray) : AObj := .ext (Bld bs)

theorem lb_more {h : Nat → Option Obj} {Im : Nat → Prop} {ρ : Nat → Option Loc} {lb : Loc} {bs : ByteArray} (H : RO h Im ρ lb (bbuf bs)) : lb.more = [] := H.2.1

theorem open_bld {w : World} {Im : Nat → Prop} {ρ : Nat → Option Loc} {A : Nat → Prop} {bs : ByteArray} (H : HRel w Im ρ [(9000, some (bldO bs))] A) :
    (bs.size = 0 ∧ ∃ T, BldT T ∧ HRel w Im ρ [(9000, some (.tvar T zB))] A) ∨
    (bs.size ≠ 0 ∧ ∃ l lb, ρ 9000 = some l ∧ l.isBuf = false ∧ l.more = lb.fp ∧ HRel w Im (upd (upd ρ 9000 (some { l with more := [] })) 9001 (some lb)) [(9000, some (bvar bs.size)), (9001, some (bbuf bs))] A) := by
  obtain ⟨l, hl, hro, hf⟩ := H.obj 9000 (bldO bs) rfl
  obtain ⟨h1, -, -, b, T, ms, q1, q2, q3, q4⟩ := hro
  rcases q4 with ⟨q4, q5, q6, q7, q8⟩ | ⟨q4, q5, lb, q6, q7, q8, q9⟩
  · refine .inl ⟨q4, T, q5, fun r o hr => ?_, fun r r' o o' l l' hr hr' hne => ?_⟩
    · obtain ⟨rfl, rfl⟩ := lkH_one hr
      refine ⟨l, hl, ⟨h1, q6, b, ms, q1, q2, q3, fun i v x e1 e2 => ?_⟩, hf⟩
      match i, e2 with
      | 0, e2 => injection e2 with e2; subst e2; rw [q7] at e1; injection e1 with e1; subst e1; exact .v _ rfl
      | 1, e2 => injection e2 with e2; subst e2; rw [q8] at e1; injection e1 with e1; subst e1; exact .v _ rfl
      | n + 2, e2 => simp [zB] at e2
    · exact absurd ((lkH_one hr).1.trans (lkH_one hr').1.symm) hne
  · refine .inr ⟨q4, l, lb, hl, h1, q6, ?_⟩
    have e1 : upd (upd ρ 9000 (some { l with more := [] })) 9001 (some lb) 9000 = some { l with more := [] } := by rw [upd_ne _ _ (by decide), upd_same]
    have e2 : upd (upd ρ 9000 (some { l with more := [] })) 9001 (some lb) 9001 = some lb := upd_same ..
    have hfp : ∀ k, k ∈ Loc.fp { l with more := [] } → k = b := fun k hk => by simpa [Loc.fp, q1] using hk
    refine ⟨fun r o hr => ?_, fun r r' o o' l1 l2 p1 p2 hne p3 p4 k hk hk' => ?_⟩
    · rcases lkH_two hr with ⟨rfl, rfl⟩ | ⟨rfl, rfl⟩
      · refine ⟨_, e1, ⟨h1, rfl, b, ms, T, q1, q2, q3, fun i u hu x hx => ?_⟩, fun k hk => hf k ?_⟩
        · match i, hx with
          | 0, hx =>
            injection hx with hx; subst hx
            rw [q5] at hu; injection hu with hu; subst hu
            exact ⟨.ptr _ _ _ rfl fun l' hl' => by rw [e1] at hl'; injection hl' with hl'; subst hl'; exact ⟨h1, b, q1, rfl⟩, rfl⟩
          | 1, hx =>
            injection hx with hx; subst hx
            rw [q8] at hu; injection hu with hu; subst hu
            have hlen : lb.len = bs.size := by rw [q9.2.2.2.1, bsRow_len]
            have hone : (lb.sub 0 bs.size).oneCell' = true := by
              unfold Loc.sub; split <;> rfl
            exact ⟨.msl _ _ _ _ _ hone fun l' hl' => by rw [e2] at hl'; injection hl' with hl'; subst hl'; exact ⟨by omega, fun _ => rfl⟩, hone⟩
          | n + 2, hx => simp at hx
        · rw [hfp k hk]; simp [Loc.fp, q1]
      · exact ⟨_, e2, bbuf_any q9, fun k hk => hf k (List.mem_append.2 (.inr (by rw [q6]; exact hk)))⟩
    · rcases lkH_two p1 with ⟨rfl, rfl⟩ | ⟨rfl, rfl⟩
      · rcases lkH_two p2 with ⟨rfl, rfl⟩ | ⟨rfl, rfl⟩
        · exact hne rfl
        · rw [e1] at p3; injection p3 with p3; subst p3
          rw [e2] at p4; injection p4 with p4; subst p4
          rw [hfp k hk] at hk'; exact q7 hk'
      · rcases lkH_two p2 with ⟨rfl, rfl⟩ | ⟨rfl, rfl⟩
        · rw [e2] at p3; injection p3 with p3; subst p3
          rw [e1] at p4; injection p4 with p4; subst p4
          rw [hfp k hk'] at hk; exact q7 hk
        · exact hne rfl

theorem tin_bld {ρ : Nat → Option Loc} {bs : ByteArray} {l lb : Loc} (hl : ρ 9000 = some l) (hm : l.more = lb.fp) {k : Nat} (H : TIn (upd (upd ρ 9000 (some { l with more := [] })) 9001 (some lb)) [(9000, some (bvar bs.size)), (9001, some (bbuf bs))] k) : TIn ρ [(9000, some (bldO bs))] k := by
  have e1 : upd (upd ρ 9000 (some { l with more := [] })) 9001 (some lb) 9000 = some { l with more := [] } := by rw [upd_ne _ _ (by decide), upd_same]
  have e2 : upd (upd ρ 9000 (some { l with more := [] })) 9001 (some lb) 9001 = some lb := upd_same ..
  obtain ⟨r, o, l', hr, h1, h2⟩ := H
  refine ⟨9000, bldO bs, l, rfl, hl, ?_⟩
  rcases lkH_two hr with ⟨rfl, rfl⟩ | ⟨rfl, rfl⟩
  · rw [e1] at h1; injection h1 with h1; subst h1
    simp only [Loc.fp, List.append_nil] at h2
    simp only [Loc.fp, List.mem_append]; exact .inl h2
  · rw [e2] at h1; injection h1 with h1; subst h1
    simp only [Loc.fp, List.mem_append]; rw [hm]; exact .inr h2

/-- What a builder is behind a writing, as one object. -/
theorem close_bld {w w' : World} {Im Im' : Nat → Prop} {ρ ρ0 ρ' : Nat → Option Loc} {hin hin0 : HL} {bs2 : ByteArray} (hne : bs2.size ≠ 0) (hT : ∀ k, TIn ρ0 hin0 k → TIn ρ hin k)
    (hst : ∀ l', ρ0 9000 = some l' → ∃ l, ρ 9000 = some l ∧ l.isBuf = false ∧ ∃ m, l' = { l with more := m }) (h9 : ∃ o, lkH 9000 hin0 = some o) (hone : ∀ r o, lkH r hin = some o → r = 9000)
    (H : After w Im ρ0 hin0 w' Im' ρ' [(9000, some (bvar bs2.size)), (9001, some (bbuf bs2))]) : ∃ ρ3, After w Im ρ hin w' Im' ρ3 [(9000, some (bldO bs2))] := by
  obtain ⟨l2, hl2, hro2, hf2⟩ := H.rel.obj 9000 (bvar bs2.size) rfl
  obtain ⟨lb, hlb, hrob, hfb⟩ := H.rel.obj 9001 (bbuf bs2) rfl
  obtain ⟨o9, h9⟩ := h9
  obtain ⟨l0, q1, q2⟩ := H.anc 9000 o9 h9 l2 hl2
  obtain ⟨l, q3, q4, m, q5⟩ := hst l0 q1
  obtain ⟨r1, r2, b, ms, T, r3, r4, r5, r6⟩ := hro2
  have hms : ms.size = 2 := r5
  have hmore : ∃ m, ({ l2 with more := lb.fp } : Loc) = { l with more := m } := by
    subst q5
    rcases q2 with rfl | ⟨q2, _⟩ | ⟨_, m', rfl⟩
    · exact ⟨_, rfl⟩
    · rw [show Loc.isBuf { l with more := m } = l.isBuf from rfl, q4] at q2; exact absurd q2 (by simp)
    · exact ⟨_, rfl⟩
  have hm0 : ms[0]? = some (.pointer (some ⟨b, 0, none⟩)) := by
    obtain ⟨u, hu⟩ : ∃ u, ms[0]? = some u := ⟨_, Array.getElem?_eq_getElem (by omega)⟩
    obtain ⟨k1, _⟩ := r6 0 u hu (.ptr 9000 0) rfl
    rw [hu]
    cases k1 with
    | ptr _ _ _ _ hp =>
      obtain ⟨_, b', p1, p2⟩ := hp l2 hl2
      rw [r3] at p1; injection p1 with p1; subst p1; rw [p2]
  have hm1 : ms[1]? = some (lb.sub 0 bs2.size) := by
    obtain ⟨u, hu⟩ : ∃ u, ms[1]? = some u := ⟨_, Array.getElem?_eq_getElem (by omega)⟩
    obtain ⟨k1, _⟩ := r6 1 u hu (.msl 9001 bs2.size 0 bs2.size) rfl
    rw [hu]
    cases k1 with
    | msl _ _ _ _ _ _ hp =>
      obtain ⟨_, p2⟩ := hp lb hlb
      rw [p2 (by rw [hrob.2.2.2.1, bsRow_len])]
  have hbn : b ∉ lb.fp := H.rel.dis 9000 9001 _ _ l2 lb rfl rfl (by decide) hl2 hlb b (by simp [Loc.fp, r3])
  have hfp : ∀ k, k ∈ Loc.fp { l2 with more := lb.fp } → k ∈ l2.fp ∨ k ∈ lb.fp := fun k hk => by
    simp only [Loc.fp, List.mem_append] at hk ⊢
    rcases hk with hk | hk
    · exact .inl (.inl hk)
    · exact .inr hk
  have e1 : upd (fun _ => none) 9000 (some ({ l2 with more := lb.fp } : Loc)) 9000 = some { l2 with more := lb.fp } := upd_same ..
  refine ⟨upd (fun _ => none) 9000 (some { l2 with more := lb.fp }), ⟨⟨H.grows.size, H.grows.os, H.grows.tape, H.grows.output, fun k hk hn => H.grows.block k hk fun h => hn (hT k h)⟩, H.im, fun k hk => ?_, ⟨fun r o hr => ?_, fun r r' o o' l1 l3 p1 p2 hn => ?_⟩, fun r o hr l' hl' => ?_, fun r o hr q hq => ?_⟩⟩
  · obtain ⟨p1, p2⟩ := H.imn k hk
    exact ⟨p1, p2.imp id fun h => h.imp id (hT k)⟩
  · obtain ⟨rfl, rfl⟩ := lkH_one hr
    refine ⟨_, e1, ⟨r1, ⟨b, r3⟩, Bld.keep, b, T, ms, r3, r4, hms, .inr ⟨hne, hm0, lb, rfl, hbn, hm1, bbuf_any hrob⟩⟩, fun k hk => ?_⟩
    rcases hfp k hk with h | h
    · obtain ⟨p1, p2, p3⟩ := hf2 k h
      exact ⟨p1, p2, p3.imp id (hT k)⟩
    · obtain ⟨p1, p2, p3⟩ := hfb k h
      exact ⟨p1, p2, p3.imp id (hT k)⟩
  · exact absurd ((lkH_one p1).1.trans (lkH_one p2).1.symm) hn
  · have := hone r o hr
    subst this
    rw [e1] at hl'; injection hl' with hl'; subst hl'
    obtain ⟨m', hm'⟩ := hmore
    exact ⟨l, q3, .inr (.inr ⟨q4, m', hm'⟩)⟩
  · obtain ⟨rfl, rfl⟩ := lkH_one hr
    simp [AObj.ment] at hq

theorem ra_nom {h : Nat → Option Obj} {Im : Nat → Prop} {ρ ρ' : Nat → Option Loc} {v : Value} {x : AV} (H : RA h Im ρ v x) (hx : ∀ r, x.ment r = false) : RA h Im ρ' v x :=
  H.mono (fun _ h => h) (fun _ _ => rfl) fun r hr => by rw [hx r] at hr; exact absurd hr (by simp)

/-- A call that writes to a builder. -/
theorem Ctr.bld {E : Env} {f : FuncId} {args : List AV} {res : AV} {bs bs2 : ByteArray} (hne : bs2.size ≠ 0) (hargs : ∀ x ∈ args, ∀ r, x.ment r = true → r = 9000) (hres : ∀ r, res.ment r = false)
    (hb : bs.size = 0 → ∀ T, BldT T → Ctr E f args [(9000, some (.tvar T zB))] fun o => o = .ret res [(9000, some (bvar bs2.size)), (9001, some (bbuf bs2))])
    (hu : Ctr E f args [(9000, some (bvar bs.size)), (9001, some (bbuf bs))] fun o => o = .ret res [(9000, some (bvar bs2.size)), (9001, some (bbuf bs2))]) :
    Ctr E f args [(9000, some (bldO bs))] fun o => o = .ret res [(9000, some (bldO bs2))] := by
  refine ⟨hu.1, fun w Im ρ vs hG hIm hgl hsz hra hrel => ?_⟩
  obtain ⟨l9, hl9, hro9, -⟩ := hrel.obj 9000 (bldO bs) rfl
  have hone : ∀ r o, lkH r [(9000, some (bldO bs))] = some o → r = 9000 := fun r o hr => (lkH_one hr).1
  rcases open_bld hrel with ⟨h0, T, hT, hr2⟩ | ⟨h0, l, lb, hl, hbuf, hm, hr2⟩
  · refine ((hb h0 T hT).2 w Im ρ vs hG hIm hgl hsz hra hr2).mono fun e w' he => ?_
    cases e with
    | returned v =>
      obtain ⟨res', ho, Im', ρ', h1, h2, h3, A⟩ := he
      injection h1 with e1 e2; subst e1; subst e2
      obtain ⟨ρ3, A3⟩ := close_bld (ρ := ρ) (hin := [(9000, some (bldO bs))]) hne (fun k hk => by
        obtain ⟨r, o, l', hr, q1, q2⟩ := hk
        obtain ⟨rfl, rfl⟩ := lkH_one hr
        exact ⟨_, _, l', rfl, q1, q2⟩) (fun l' hl' => by
        rw [hl9] at hl'; injection hl' with hl'; subst hl'
        exact ⟨_, hl9, hro9.1, l9.more, rfl⟩) ⟨_, rfl⟩ hone A
      exact ⟨_, _, Im', ρ3, rfl, ra_nom h2 hres, fun r hr => (by rw [hres r] at hr; exact absurd hr (by simp)), A3⟩
    | panicked ch => obtain ⟨ho, Im', ρ', h1, h4⟩ := he; exact absurd h1 (by simp)
    | outgrown => exact he
  · have e1 : upd (upd ρ 9000 (some { l with more := [] })) 9001 (some lb) 9000 = some { l with more := [] } := by rw [upd_ne _ _ (by decide), upd_same]
    refine (hu.2 w Im _ vs hG hIm hgl hsz (fun i v x hv hx => (hra i v x hv hx).mono (fun _ h => h) (fun _ _ => rfl) fun r hr l' hl' => ?_) hr2).mono fun e w' he => ?_
    · have := hargs x (List.mem_of_getElem? hx) r hr
      subst this
      rw [e1] at hl'; injection hl' with hl'; subst hl'
      exact ⟨l, hl, .inr (.inr ⟨hbuf, [], rfl⟩)⟩
    · cases e with
      | returned v =>
        obtain ⟨res', ho, Im', ρ', h1, h2, h3, A⟩ := he
        injection h1 with q1 q2; subst q1; subst q2
        obtain ⟨ρ3, A3⟩ := close_bld (ρ := ρ) (hin := [(9000, some (bldO bs))]) hne (fun k hk => tin_bld hl hm hk) (fun l' hl' => by
          rw [e1] at hl'; injection hl' with hl'; subst hl'
          exact ⟨l, hl, hbuf, [], rfl⟩) ⟨_, rfl⟩ hone A
        exact ⟨_, _, Im', ρ3, rfl, ra_nom h2 hres, fun r hr => (by rw [hres r] at hr; exact absurd hr (by simp)), A3⟩
      | panicked ch => obtain ⟨ho, Im', ρ', h1, h4⟩ := he; exact absurd h1 (by simp)
      | outgrown => exact he

/-- A call that ends a builder. -/
theorem Ctr.bldEnd {E : Env} {f : FuncId} {args : List AV} {res : AV} {bs : ByteArray} (hargs : ∀ x ∈ args, ∀ r, x.ment r = true → r = 9000) (hres : ∀ r, res.ment r = false)
    (hbod : Bodied E.P f) (hb : bs.size = 0 → ∀ T, BldT T → Ctr E f args [(9000, some (.tvar T zB))] fun o => o = .ret res [])
    (hu : bs.size ≠ 0 → Ctr E f args [(9000, some (bvar bs.size)), (9001, some (bbuf bs))] fun o => o = .ret res []) :
    Ctr E f args [(9000, some (bldO bs))] fun o => o = .ret res [] := by
  refine ⟨hbod, fun w Im ρ vs hG hIm hgl hsz hra hrel => ?_⟩
  have fin : ∀ {ρ0 ρ' : Nat → Option Loc} {hin0 : HL} {w' : World} {Im' : Nat → Prop}, (∀ k, TIn ρ0 hin0 k → TIn ρ [(9000, some (bldO bs))] k) → After w Im ρ0 hin0 w' Im' ρ' [] → After w Im ρ [(9000, some (bldO bs))] w' Im' (fun _ => none) [] := fun {ρ0 ρ' hin0 w' Im'} hT H =>
    ⟨⟨H.grows.size, H.grows.os, H.grows.tape, H.grows.output, fun k hk hn => H.grows.block k hk fun h => hn (hT k h)⟩, H.im, fun k hk => by
      obtain ⟨p1, p2⟩ := H.imn k hk
      exact ⟨p1, p2.imp id fun h => h.imp id (hT k)⟩, ⟨fun r o hr => by simp [lkH] at hr, fun r r' o o' l1 l3 p1 => by simp [lkH] at p1⟩, fun r o hr l' hl' => by simp at hl', fun r o hr => by simp [lkH] at hr⟩
  rcases open_bld hrel with ⟨h0, T, hT, hr2⟩ | ⟨h0, l, lb, hl, hbuf, hm, hr2⟩
  · refine ((hb h0 T hT).2 w Im ρ vs hG hIm hgl hsz hra hr2).mono fun e w' he => ?_
    cases e with
    | returned v =>
      obtain ⟨res', ho, Im', ρ', h1, h2, h3, A⟩ := he
      injection h1 with e1 e2; subst e1; subst e2
      exact ⟨_, _, Im', _, rfl, ra_nom h2 hres, fun r hr => (by rw [hres r] at hr; exact absurd hr (by simp)), fin (fun k hk => by
        obtain ⟨r, o, l', hr, q1, q2⟩ := hk
        obtain ⟨rfl, rfl⟩ := lkH_one hr
        exact ⟨_, _, l', rfl, q1, q2⟩) A⟩
    | panicked ch => obtain ⟨ho, Im', ρ', h1, h4⟩ := he; exact absurd h1 (by simp)
    | outgrown => exact he
  · have e1 : upd (upd ρ 9000 (some { l with more := [] })) 9001 (some lb) 9000 = some { l with more := [] } := by rw [upd_ne _ _ (by decide), upd_same]
    refine ((hu h0).2 w Im _ vs hG hIm hgl hsz (fun i v x hv hx => (hra i v x hv hx).mono (fun _ h => h) (fun _ _ => rfl) fun r hr l' hl' => ?_) hr2).mono fun e w' he => ?_
    · have := hargs x (List.mem_of_getElem? hx) r hr
      subst this
      rw [e1] at hl'; injection hl' with hl'; subst hl'
      exact ⟨l, hl, .inr (.inr ⟨hbuf, [], rfl⟩)⟩
    · cases e with
      | returned v =>
        obtain ⟨res', ho, Im', ρ', h1, h2, h3, A⟩ := he
        injection h1 with q1 q2; subst q1; subst q2
        exact ⟨_, _, Im', _, rfl, ra_nom h2 hres, fun r hr => (by rw [hres r] at hr; exact absurd hr (by simp)), fin (fun k hk => tin_bld hl hm hk) A⟩
      | panicked ch => obtain ⟨ho, Im', ρ', h1, h4⟩ := he; exact absurd h1 (by simp)
      | outgrown => exact he

theorem write_ctr (g : GP) (bs s : ByteArray) (hs : bs.size + s.size ≤ 140737488355328) (h0 : s.size ≠ 0) : Ctr (ax g).E 76 [.ptr 9000 0, .str s] [(9000, some (bldO bs))] (fun o => o = .ret (.tup [.i64 s.size, .d (.v .nilIface)]) [(9000, some (bldO (bs ++ s)))]) :=
  Ctr.bld (by rw [ByteArray.size_append]; omega) (fun x hx r hr => by
    simp at hx
    rcases hx with rfl | rfl
    · exact (Nat.eq_of_beq_eq_true hr).symm
    · exact absurd hr (by simp [AV.ment])) (fun r => rfl) (fun hz T hT => by
    have e : bs ++ s = s := by
      apply ByteArray.ext; rw [ByteArray.data_append]
      have : bs.data = #[] := Array.eq_empty_of_size_eq_zero hz
      rw [this]; simp
    rw [e]; exact writeFresh_ctr g T hT s (by omega)) (writeUsed_ctr g bs s hs)
theorem byte_ctr (g : GP) (bs : ByteArray) (b : UInt8) (hs : bs.size + 1 ≤ 140737488355328) : Ctr (ax g).E 119 [.ptr 9000 0, .d (.v (.int .u8 b.toNat))] [(9000, some (bldO bs))] (fun o => o = .ret (.d (.v .nilIface)) [(9000, some (bldO (bs ++ oneB b)))]) :=
  Ctr.bld (by rw [ByteArray.size_append]; show bs.size + 1 ≠ 0; omega) (fun x hx r hr => by
    simp at hx
    rcases hx with rfl | rfl
    · exact (Nat.eq_of_beq_eq_true hr).symm
    · exact absurd hr (by simp [AV.ment])) (fun r => rfl) (fun hz T hT => by
    have e : bs ++ oneB b = oneB b := by
      apply ByteArray.ext; rw [ByteArray.data_append]
      have : bs.data = #[] := Array.eq_empty_of_size_eq_zero hz
      rw [this]; simp
    rw [e]; exact byteFresh_ctr g T hT b) (byteUsed_ctr g bs b hs)
theorem bstring_ctr (g : GP) (bs : ByteArray) : Ctr (ax g).E 74 [.ptr 9000 0] [(9000, some (bldO bs))] (fun o => o = .ret (.str bs) []) :=
  Ctr.bldEnd (fun x hx r hr => by simp at hx; subst hx; exact (Nat.eq_of_beq_eq_true hr).symm) (fun r => rfl) ⟨_, Tryd.func74, rfl, by decide +kernel⟩ (fun hz T hT => by
    have : bs = ⟨#[]⟩ := by
      apply ByteArray.ext; exact Array.eq_empty_of_size_eq_zero hz
    rw [this]; exact stringFresh_ctr g T) (fun hne => stringUsed_ctr g bs hne)

/-- A builder that was just made. -/
theorem AWp.asBld {E : Env} {k : Kn} {code : Code} {Q : APost} {s : St} (q : Nat) (T : TypeId) (hT : BldT T) (hq : lkH q s.h = some (.tvar T zB)) (h : AWp E k code Q { f := s.f, h := (q, some (bldO ⟨#[]⟩)) :: s.h }) : AWp E k code Q s := fun c ok hn ha Im ρ a w S => by
  obtain ⟨l, hl, hro, _⟩ := S.obj q (.tvar T zB) hq
  have hρ : upd ρ q (some l) = ρ := by
    funext x
    by_cases hx : x = q
    · subst hx; rw [upd_same, hl]
    · rw [upd_ne _ _ hx]
  have S2 := S.chg (w' := w) (r := q) (l := l) (l' := l) (o' := bldO ⟨#[]⟩) hq hl (Grows.refl w _) (.inl rfl) (fun b hb => .inl hb) (by
    obtain ⟨h1, h2, b, ms, h4, h5, h6, h7⟩ := hro
    have h6 : ms.size = 2 := h6
    have hm0 : ms[0]? = some (.pointer none) := by
      have h0 : 0 < ms.size := by omega
      have := (h7 0 ms[0] _ (Array.getElem?_eq_getElem h0) rfl).bool
      rw [Array.getElem?_eq_getElem h0, this]
    have hm1 : ms[1]? = some (.slice none 0 0) := by
      have h0 : 1 < ms.size := by omega
      have := (h7 1 ms[1] _ (Array.getElem?_eq_getElem h0) rfl).bool
      rw [Array.getElem?_eq_getElem h0, this]
    exact ⟨h1, ⟨b, h4⟩, Bld.keep, b, T, ms, h4, h5, h6, .inl ⟨rfl, hT, h2, hm0, hm1⟩⟩)
  rw [hρ] at S2
  refine h c ok hn ha Im ρ a w ?_
  have e2 : (St.H { f := s.f, h := (q, some (bldO ⟨#[]⟩)) :: s.h }) = upd s.H q (some (bldO ⟨#[]⟩)) := lkH_cons q _ s.h
  rw [e2]
  exact S2
theorem LoopP.asBld {E : Env} {k : Kn} {code : Code} {Q : APost} {s : St} (q : Nat) (T : TypeId) (hT : BldT T) (hq : lkH q s.h = some (.tvar T zB)) (h : LoopP E k code Q { f := s.f, h := (q, some (bldO ⟨#[]⟩)) :: s.h }) : LoopP E k code Q s := ⟨.asBld q T hT hq h.ok⟩
end Go.Ax
