/- What the card of this claim stands on, or the card itself: for every input, as the given row says. -/
import Derived.Test.YtdobclfcondfcaaGreatDoorBA09
import Derived.Test.YtdobclfcondfcaaGreatDoorBA11
import Derived.Test.YtdobclfcondfcaaGreatDoorBA12
import Derived.Test.YtdobclfcondfcaaGreatDoorBA16

namespace Go.Ax
open Go.Proofs
set_option maxRecDepth 10000
def initC : ByteArray := ⟨#[105, 110, 105, 116]⟩
def letC : ByteArray := ⟨#[108, 101, 116]⟩
def policyC : ByteArray := ⟨#[112, 111, 108, 105, 99, 121]⟩
def onC : ByteArray := ⟨#[111, 110]⟩
def numsGo : Nat → List Int → SP → Option (List Int × SP)
  | 0, _, _ => none
  | n + 1, acc, p => if (takeS dotC p).1 = true then some (acc, (takeS dotC p).2) else (numS (takeS dotC p).2).bind fun x => numsGo n (acc ++ [x.1]) x.2
def noted (c : SP) (w : ByteArray) (n : Int) : SP := { c with unk := c.unk || nsHas c.ns w, ns := nsPut c.ns w n }
def letsGo : Nat → SP → Option SP
  | 0, _ => none
  | n + 1, p => if (takeS letC p).1 = true then (nameS (takeS letC p).2).bind fun w => (mustS eqB w.2).bind fun a => (numS a).bind fun x => (mustS dotC x.2).bind fun c => letsGo n (noted c w.1 x.1)
    else some (takeS letC p).2
def rulesGo : Nat → List RuleT → SP → Option (List RuleT × SP)
  | 0, _, _ => none
  | n + 1, acc, p => if (takeS onC p).1 = true then (ruleS (takeS onC p).2).bind fun x => rulesGo n (acc ++ [x.1]) x.2 else some (acc, (takeS onC p).2)
def headS (p : SP) : Option (List Int × SP) := (mustS initC p).bind fun a => (numS a).bind fun x => (numsGo x.2.l.length [x.1] x.2).bind fun i => (letsGo i.2.l.length i.2).bind fun b => some (i.1, b)
def bodyS (i : List Int) (b : SP) : Option (ProgT × SP) := (mustS policyC b).bind fun c => (sumS c.l.length c).bind fun s => (mustS dotC s.2).bind fun d => (rulesGo d.l.length [] d).bind fun rs => if (hdT rs.2).kind = 0 then some (⟨i, s.1, rs.1⟩, rs.2) else none
def progS (p : SP) : Option (ProgT × SP) := (headS p).bind fun x => bodyS x.1 x.2
theorem DrawP.asVar {E : Env} {k : Kn} {id : Nat} {ops : Array Oper} {Q : APost} {s : St} (q n : Nat) (cs : List D) (hq : lkH q s.h = some (.dvar n cs)) (h : DrawP E k id ops Q { f := s.f, h := (q, some (.var (cs.map .d))) :: s.h }) : DrawP E k id ops Q s := ⟨AWp.asVar q n cs hq h.ok⟩
theorem Ctr.rowA {E : Env} {f : FuncId} {args : List AV} {hin : HL} {α : Type} {ch : List PanicEntry} {row : α → List D} {hx : α → HL} {sp : Option α} (h : Ctr E f args hin fun o => o = outP ch (fun x => .agg ((row x).map .d)) hx sp) : Ctr E f args hin fun o => o = outP ch (fun x => .dagg (row x)) hx sp :=
  Ctr.loose (rx := fun x => .agg ((row x).map .d)) (h.mono fun _ h => .inl h) (fun _ _ => rfl) fun _ _ _ _ _ H => H.dagg_of
theorem condsGo_len : ∀ {n : Nat} {w g : List PairT} {p q : SP} {x : List PairT × List PairT}, condsGo n w g p = some (x, q) → q.l.length ≤ p.l.length
  | 0, _, _, _, _, _, h => by simp [condsGo] at h
  | n + 1, w, g, p, q, x, h => by
    rw [condsGo] at h
    split at h
    · simp at h
    · rename_i b y r hr
      have h1 := condS_len hr
      have h2 := takeS_len (s := ampB) (p := r)
      split at h
      · have := condsGo_len h; omega
      · injection h with h; injection h with _ h; subst h; omega
theorem ruleS_len {p : SP} {r : RuleT} {q : SP} (h : ruleS p = some (r, q)) : q.l.length < p.l.length := by
  simp only [ruleS, Option.bind_eq_some_iff] at h
  obtain ⟨x, h1, p2, h2, y, h3, p4, h4, h5⟩ := h
  injection h5 with h5; injection h5 with _ h5; subst h5
  have a1 := condsGo_len (x := x.1) (q := x.2) h1
  have a2 := mustS_len h2
  have a3 := listS_len (fun _ _ _ h => partS_len h) _ _ _ h3
  have a4 := mustS_len h4
  show p4.l.length < p.l.length
  omega
def outH (i : List Int) (rs : List RuleT) (op f n : Int) (kids : D) (p : SP) : HL := (2, some (.var [.d (.v (.slice none 0 0)), .i64 0, .i64 0, .d (.u16 0), .d (.v (.slice none 0 0)), .d (.v (.slice none 0 0))])) :: (3, some (.var [.msl 15 i.length 0 i.length, .i64 op, .i64 f, .d (.u16 n), .d kids, .msl 9005 rs.length 0 rs.length])) :: (15, some (.buf 1 26 (i.map rowS))) :: (9005, some (.buf 3 87 (rs.map rowR))) :: spH p
theorem program_ctr (g : GP) (N : Nat) (hN0 : N ≤ 100000) (p : SP) (hp : p.l.length ≤ N) : Ctr (ax g).E 118 [.ptr 9000 0] (spH p) (fun o => o = outP Failed (fun x : ProgT × SP => .dagg (rowG x.1)) (fun x => spH x.2) (progS p)) := by
  refine Ctr.rowA ?_
  refine Ctr.body (X := ax g) _ 89 [9000, 9001] [.cell 2 34] Tryz.func118 rfl rfl rfl rfl (by decide +kernel) rfl rfl ?_
  conv => whnf
  repeat' (first | (refine And.intro easyA ?_; conv => whnf) | (refine ifB_intro (fun hA => ?_) (fun hA => ?_) <;> (try rw [hA]) <;> (conv => whnf) <;> (first | replace hA := nrmA hA | replace hA := nrmB hA | replace hA := nrmC hA | replace hA := nrmD hA | replace hA := nrmE hA | replace hA := nrmF hA | skip) <;> (try simp only [List.length_map, cond_true, cond_false, Bool.not_eq_true', Bool.not_eq_false', beq_iff_eq, beq_eq_false_iff_ne, ne_eq] at hA)) | (refine CallP.may (must5_ctr g p initC (by decide)) (by (conv => whnf); repeat' first | exact trivial | refine And.intro (fun _ h => h) ?_) (fun _ => rfl) (fun hN => ?_) (fun xS hS => ?_) <;> (conv => whnf) <;> (try refine ⟨⟨[], trivial, rfl, ?_⟩⟩)) | (rw [getD_map _ _ _ _ (by assumption)]; conv => whnf))
  · rw [progS, headS, hN]; rfl
  · have hd : (numS xS = none → progS p = none) := fun h => by rw [progS, headS, hS]; simp only [Option.bind_some, h]; rfl
    refine DrawP.asVar 3 6 _ rfl ?_
    cases hP : numS xS with
    | none =>
      have hc := (num5_ctr g xS).none hP
      refine DrawP.any (X := ax g) (by decide +kernel) ?_
      conv => whnf
      repeat' (first | (refine And.intro easyA ?_; conv => whnf) | (refine ifB_intro (fun hA => ?_) (fun hA => ?_) <;> (try rw [hA]) <;> (conv => whnf) <;> (first | replace hA := nrmA hA | replace hA := nrmB hA | replace hA := nrmC hA | replace hA := nrmD hA | replace hA := nrmE hA | replace hA := nrmF hA | skip) <;> (try simp only [List.length_map, cond_true, cond_false, Bool.not_eq_true', Bool.not_eq_false', beq_iff_eq, beq_eq_false_iff_ne, ne_eq] at hA)) | (refine CallP.dies (hc) (by (conv => whnf); repeat' first | exact trivial | refine And.intro (fun _ h => h) ?_) ?_; (conv => whnf); refine ⟨⟨[], trivial, rfl, ?_⟩⟩) | (refine BothP.mk ?_ ?_ <;> conv => whnf) | (rw [getD_map _ _ _ _ (by assumption)]; conv => whnf))
      all_goals (rw [hd hP]; rfl)
    | some y =>
      obtain ⟨x, q⟩ := y
      have hc := (num5_ctr g xS).some hP
      refine DrawP.intro (X := ax g) (id := 3) B118_3 (by kernel_rfl) (by decide +kernel) ?_
      conv => whnf
      repeat' (first | (refine And.intro easyA ?_; conv => whnf) | (refine ifB_intro (fun hA => ?_) (fun hA => ?_) <;> (try rw [hA]) <;> (conv => whnf) <;> (first | replace hA := nrmA hA | replace hA := nrmB hA | replace hA := nrmC hA | replace hA := nrmD hA | replace hA := nrmE hA | replace hA := nrmF hA | skip) <;> (try simp only [List.length_map, cond_true, cond_false, Bool.not_eq_true', Bool.not_eq_false', beq_iff_eq, beq_eq_false_iff_ne, ne_eq] at hA)) | (refine CallP.hlb (hc) (by (conv => whnf); repeat' first | exact trivial | refine And.intro (fun _ h => h) ?_) rfl ?_; conv => whnf) | (refine CallD.hlb (hc) (by (conv => whnf); repeat' first | exact trivial | refine And.intro (fun _ h => h) ?_) ?_; conv => whnf) | (rw [getD_map _ _ _ _ (by assumption)]; conv => whnf))
      have hhead : headS p = (numsGo q.l.length [x] q).bind fun i => (letsGo i.2.l.length i.2).bind fun b => some (i.1, b) := by
        rw [headS, hS]; simp only [Option.bind_some, hP]
      have hl1 := mustS_len hS
      have hl2 := numS_len hP
      refine LoopP.asVar 2 6 _ rfl ?_
      refine LoopP.ownCell 3 5 9005 3 87 _ rfl rfl rfl ?_
      generalize hR : numsGo q.l.length [x] q = R at hhead
      refine LoopP.inv (X := ax g) (fun y : List Int × SP => { f := [(0, .ptr 9000 0), (2, .ptr 2 0), (3, .ptr 3 0)], h := outH y.1 [] 0 0 0 (.v (.slice none 0 0)) y.2 }) (fun y => y.1.length + y.2.l.length ≤ N ∧ ∃ n, y.2.l.length ≤ n ∧ numsGo n y.1 y.2 = R) (fun y => y.2.l.length) ([x], q) ⟨by show 1 + q.l.length ≤ N; omega, q.l.length, Nat.le_refl _, hR⟩ ⟨⟨rfl, rfl, rfl, trivial⟩, ⟨fun o h => h, fun o h => h, fun o h => h, fun o h => h, fun o h => h, fun o h => h, trivial⟩⟩ fun y hy => ?_
      obtain ⟨acc, q2⟩ := y
      obtain ⟨hn0, n, hn, hR2⟩ := hy
      replace hn0 : acc.length + q2.l.length ≤ N := hn0
      replace hn : q2.l.length ≤ n := hn
      have hpos : 0 < q2.l.length := by
        obtain ⟨l, ok, ns, u, tw⟩ := q2
        cases l with
        | nil => exact ok.not_nil.elim
        | cons t r => simp
      obtain ⟨m, rfl⟩ : ∃ m, n = m + 1 := ⟨n - 1, by omega⟩
      have ht := take_ctr g q2 dotC (by decide)
      have htl := takeS_len (s := dotC) (p := q2)
      replace hR2 : numsGo (m + 1) acc q2 = R := hR2
      conv => whnf
      repeat' (first | (refine And.intro easyA ?_; conv => whnf) | (refine ifB_intro (fun hA => ?_) (fun hA => ?_) <;> (try rw [hA]) <;> (conv => whnf) <;> (first | replace hA := nrmA hA | replace hA := nrmB hA | replace hA := nrmC hA | replace hA := nrmD hA | replace hA := nrmE hA | replace hA := nrmF hA | skip) <;> (try simp only [Bool.not_eq_true', Bool.not_eq_false'] at hA)) | (refine CallP.hlb (ht) (by (conv => whnf); repeat' first | exact trivial | refine And.intro (fun _ h => h) ?_) rfl ?_; conv => whnf) | (refine CallD.hlb (ht) (by (conv => whnf); repeat' first | exact trivial | refine And.intro (fun _ h => h) ?_) ?_; conv => whnf) | (rw [getD_map _ _ _ _ (by assumption)]; conv => whnf))
      · have hR3 : (numS (takeS dotC q2).2).bind (fun x => numsGo m (acc ++ [x.1]) x.2) = R := by rw [← hR2, numsGo, if_neg (by simp [hA])]
        cases hP2 : numS (takeS dotC q2).2 with
        | none =>
          have hc2 := (num5_ctr g (takeS dotC q2).2).none hP2
          have hRn : progS p = none := by rw [progS, hhead, ← hR3, hP2]; rfl
          refine DrawP.any (X := ax g) (by decide +kernel) ?_
          conv => whnf
          repeat' (first | (refine And.intro easyA ?_; conv => whnf) | (refine ifB_intro (fun hA => ?_) (fun hA => ?_) <;> (try rw [hA]) <;> (conv => whnf) <;> (first | replace hA := nrmA hA | replace hA := nrmB hA | replace hA := nrmC hA | replace hA := nrmD hA | replace hA := nrmE hA | replace hA := nrmF hA | skip) <;> (try simp only [List.length_map, cond_true, cond_false, Bool.not_eq_true', Bool.not_eq_false', beq_iff_eq, beq_eq_false_iff_ne, ne_eq] at hA)) | (refine CallP.dies (hc2) (by (conv => whnf); repeat' first | exact trivial | refine And.intro (fun _ h => h) ?_) ?_; (conv => whnf); refine ⟨⟨[], trivial, rfl, ?_⟩⟩) | (refine BothP.mk ?_ ?_ <;> conv => whnf) | (rw [getD_map _ _ _ _ (by assumption)]; conv => whnf))
          all_goals (rw [hRn]; rfl)
        | some y =>
          obtain ⟨v, r⟩ := y
          have hc2 := (num5_ctr g (takeS dotC q2).2).some hP2
          have hl3 := numS_len hP2
          rw [hP2] at hR3
          refine DrawP.intro (X := ax g) (id := 5) B118_5 (by kernel_rfl) (by decide +kernel) ?_
          conv => whnf
          repeat' (first | (refine And.intro easyA ?_; conv => whnf) | (refine ifB_intro (fun hA => ?_) (fun hA => ?_) <;> (try rw [hA]) <;> (conv => whnf) <;> (first | replace hA := nrmA hA | replace hA := nrmB hA | replace hA := nrmC hA | replace hA := nrmD hA | replace hA := nrmE hA | replace hA := nrmF hA | skip) <;> (try simp only [List.length_map, cond_true, cond_false, Bool.not_eq_true', Bool.not_eq_false', beq_iff_eq, beq_eq_false_iff_ne, ne_eq] at hA)) | (refine CallP.hlb (hc2) (by (conv => whnf); repeat' first | exact trivial | refine And.intro (fun _ h => h) ?_) rfl ?_; conv => whnf) | (refine CallD.hlb (hc2) (by (conv => whnf); repeat' first | exact trivial | refine And.intro (fun _ h => h) ?_) ?_; conv => whnf) | (refine And.intro (by first | exact (List.length_map ..).symm | (simp only [List.length_map, List.length_cons, List.length_nil]; omega)) ?_; conv => whnf) | (rw [getD_map _ _ _ _ (by assumption)]; conv => whnf))
          refine ⟨(acc ++ [v], r), ⟨by show (acc ++ [v]).length + r.l.length ≤ N; simp only [List.length_append, List.length_cons, List.length_nil]; omega, m, by show r.l.length ≤ m; omega, hR3⟩, by show r.l.length < q2.l.length; omega, ⟨⟨rfl, rfl, rfl, trivial⟩, ⟨fun o h => h, fun o h => ?_, fun o h => ?_, fun o h => h, fun o h => h, fun o h => h, trivial⟩⟩⟩
          · rw [← h]; simp; rfl
          · rw [← h]; simp; rfl
      · have hR3 : R = some (acc, (takeS dotC q2).2) := by rw [← hR2, numsGo, if_pos hA]
        generalize hq3 : (takeS dotC q2).2 = q3 at hR3 htl
        rw [hR3] at hhead
        simp only [Option.bind_some] at hhead
        generalize hRL : letsGo q3.l.length q3 = RL at hhead
        refine LoopP.inv (X := ax g) (fun y : SP => { f := [(0, .ptr 9000 0), (2, .ptr 2 0), (3, .ptr 3 0)], h := outH acc [] 0 0 0 (.v (.slice none 0 0)) y }) (fun y => acc.length + y.l.length ≤ N ∧ ∃ n, y.l.length ≤ n ∧ letsGo n y = RL) (fun y => y.l.length) q3 ⟨by omega, q3.l.length, Nat.le_refl _, hRL⟩ ⟨⟨rfl, rfl, rfl, trivial⟩, ⟨fun o h => h, fun o h => h, fun o h => h, fun o h => h, fun o h => h, fun o h => h, trivial⟩⟩ fun y hy => ?_
        obtain ⟨hn1, n1, hn2, hRL2⟩ := hy
        have hpos1 : 0 < y.l.length := by
          obtain ⟨l, ok, ns, u, tw⟩ := y
          cases l with
          | nil => exact ok.not_nil.elim
          | cons t r => simp
        obtain ⟨m1, rfl⟩ : ∃ m, n1 = m + 1 := ⟨n1 - 1, by omega⟩
        have ht1 := take_ctr g y letC (by decide)
        have htl1 := takeS_len (s := letC) (p := y)
        have hdie : letsGo (m1 + 1) y = none → progS p = none := fun h => by rw [progS, hhead, ← hRL2, h]; rfl
        conv => whnf
        repeat' (first | (refine And.intro easyA ?_; conv => whnf) | (refine ifB_intro (fun hA => ?_) (fun hA => ?_) <;> (try rw [hA]) <;> (conv => whnf) <;> (first | replace hA := nrmA hA | replace hA := nrmB hA | replace hA := nrmC hA | replace hA := nrmD hA | replace hA := nrmE hA | replace hA := nrmF hA | skip) <;> (try simp only [List.length_map, cond_true, cond_false, Bool.not_eq_true', Bool.not_eq_false', beq_iff_eq, beq_eq_false_iff_ne, ne_eq] at hA)) | (refine CallP.hlb (ht1) (by (conv => whnf); repeat' first | exact trivial | refine And.intro (fun _ h => h) ?_) rfl ?_; conv => whnf) | (refine CallD.hlb (ht1) (by (conv => whnf); repeat' first | exact trivial | refine And.intro (fun _ h => h) ?_) ?_; conv => whnf) | (refine CallP.may (name5_ctr g _) (by (conv => whnf); repeat' first | exact trivial | refine And.intro (fun _ h => h) ?_) (fun _ => rfl) (fun hN => ?_) (fun xS hS => ?_) <;> (conv => whnf) <;> (try refine ⟨⟨[], trivial, rfl, ?_⟩⟩)) | (refine CallP.may (must5_ctr g xS.2 eqB (by decide)) (by (conv => whnf); repeat' first | exact trivial | refine And.intro (fun _ h => h) ?_) (fun _ => rfl) (fun hN => ?_) (fun xS hS => ?_) <;> (conv => whnf) <;> (try refine ⟨⟨[], trivial, rfl, ?_⟩⟩)) | (refine CallP.may (must5_ctr g xS.2 dotC (by decide)) (by (conv => whnf); repeat' first | exact trivial | refine And.intro (fun _ h => h) ?_) (fun _ => rfl) (fun hN => ?_) (fun xS hS => ?_) <;> (conv => whnf) <;> (try refine ⟨⟨[], trivial, rfl, ?_⟩⟩)) | (refine CallP.may (num5_ctr g xS) (by (conv => whnf); repeat' first | exact trivial | refine And.intro (fun _ h => h) ?_) (fun _ => rfl) (fun hN => ?_) (fun xS hS => ?_) <;> (conv => whnf) <;> (try refine ⟨⟨[], trivial, rfl, ?_⟩⟩)) | (rw [getD_map _ _ _ _ (by assumption)]; conv => whnf))
        · rw [hdie (by rw [letsGo, if_pos hA, hN]; rfl)]; rfl
        · rw [hdie (by rw [letsGo, if_pos hA, hS]; simp only [Option.bind_some, hN]; rfl)]; rfl
        · rename_i w hw
          rw [hdie (by rw [letsGo, if_pos hA, hw]; simp only [Option.bind_some, hS, hN]; rfl)]; rfl
        · rename_i w hw a ha
          rw [hdie (by rw [letsGo, if_pos hA, hw]; simp only [Option.bind_some, ha, hS, hN]; rfl)]; rfl
        · rename_i w hw a ha x2 hx2
          have hRL3 : letsGo m1 (noted xS w.1 x2.1) = RL := by rw [← hRL2, letsGo, if_pos hA, hw]; simp only [Option.bind_some, ha, hx2, hS]
          have b1 := nameS_len hw
          have b2 := mustS_len ha
          have b3 := numS_len hx2
          have b4 := mustS_len hS
          have b5 := htl1.2 hA
          repeat' (first | (refine And.intro easyA ?_; conv => whnf) | (refine ifB_intro (fun hA => ?_) (fun hA => ?_) <;> (try rw [hA]) <;> (conv => whnf) <;> (first | replace hA := nrmA hA | replace hA := nrmB hA | replace hA := nrmC hA | replace hA := nrmD hA | replace hA := nrmE hA | replace hA := nrmF hA | skip) <;> (try simp only [List.length_map, cond_true, cond_false, Bool.not_eq_true', Bool.not_eq_false', beq_iff_eq, beq_eq_false_iff_ne, ne_eq] at hA)) | (refine And.intro (keyOk_ns _) ?_; conv => whnf) | (refine And.intro (keysOk_ns _) ?_; conv => whnf) | (refine And.intro (hasGet_ns _ _) ?_; conv => whnf) | (rw [getD_map _ _ _ _ (by assumption)]; conv => whnf))
          · refine ⟨noted xS w.1 x2.1, ⟨by show acc.length + xS.l.length ≤ N; omega, m1, by show xS.l.length ≤ m1; omega, hRL3⟩, by show xS.l.length < y.l.length; omega, ⟨⟨rfl, rfl, rfl, trivial⟩, ⟨fun o h => h, fun o h => h, fun o h => h, fun o h => h, fun o h => ?_, fun o h => ?_, trivial⟩⟩⟩
            · rw [← h]; simp only [objSP, noted, hA, Bool.true_or]; rfl
            · rw [← h]; exact congrArg (fun z => some (AObj.map false z)) (mput_ns xS.ns w.1 x2.1)
          · refine ⟨noted xS w.1 x2.1, ⟨by show acc.length + xS.l.length ≤ N; omega, m1, by show xS.l.length ≤ m1; omega, hRL3⟩, by show xS.l.length < y.l.length; omega, ⟨⟨rfl, rfl, rfl, trivial⟩, ⟨fun o h => h, fun o h => h, fun o h => h, fun o h => h, fun o h => ?_, fun o h => ?_, trivial⟩⟩⟩
            · rw [← h]; simp only [objSP, noted, hA, Bool.false_or]; exact congrArg (fun z => some (AObj.var [.d (.sl false 3 (xS.l.map rowK)), .mp 9001, .bool z, .bool xS.twi])) (mhas_ns xS.ns w.1)
            · rw [← h]; exact congrArg (fun z => some (AObj.map false z)) (mput_ns xS.ns w.1 x2.1)
        · generalize hbq : (takeS letC y).2 = b at htl1
          have hhb : headS p = some (acc, b) := by rw [hhead, ← hRL2, letsGo, if_neg (by simp [hA]), hbq]; rfl
          have hpb : progS p = bodyS acc b := by rw [progS, hhb]; rfl
          rw [hpb]
          repeat' (first | (refine And.intro easyA ?_; conv => whnf) | (refine ifB_intro (fun hA => ?_) (fun hA => ?_) <;> (try rw [hA]) <;> (conv => whnf) <;> (first | replace hA := nrmA hA | replace hA := nrmB hA | replace hA := nrmC hA | replace hA := nrmD hA | replace hA := nrmE hA | replace hA := nrmF hA | skip) <;> (try simp only [List.length_map, cond_true, cond_false, Bool.not_eq_true', Bool.not_eq_false', beq_iff_eq, beq_eq_false_iff_ne, ne_eq] at hA)) | (refine CallP.may (must5_ctr g b policyC (by decide)) (by (conv => whnf); repeat' first | exact trivial | refine And.intro (fun _ h => h) ?_) (fun _ => rfl) (fun hN => ?_) (fun xS hS => ?_) <;> (conv => whnf) <;> (try refine ⟨⟨[], trivial, rfl, ?_⟩⟩)) | (refine CallP.may (sum_ctr g xS.l.length xS (Nat.le_refl _) (by have := mustS_len hS; omega)) (by (conv => whnf); repeat' first | exact trivial | refine And.intro (fun _ h => h) ?_) (fun _ => rfl) (fun hN => ?_) (fun xS hS => ?_) <;> (conv => whnf) <;> (try refine ⟨⟨[], trivial, rfl, ?_⟩⟩)) | (refine CallP.may (must5_ctr g xS.2 dotC (by decide)) (by (conv => whnf); repeat' first | exact trivial | refine And.intro (fun _ h => h) ?_) (fun _ => rfl) (fun hN => ?_) (fun xS hS => ?_) <;> (conv => whnf) <;> (try refine ⟨⟨[], trivial, rfl, ?_⟩⟩)) | (rw [getD_map _ _ _ _ (by assumption)]; conv => whnf))
          · rw [bodyS, hN]; rfl
          · rw [bodyS, hS]; simp only [Option.bind_some, hN]; rfl
          · rename_i c1 hc1
            rw [bodyS, hc1]; simp only [Option.bind_some, hS, hN]; rfl
          · rename_i c1 hc1 s1 hs1
            have d1 := mustS_len hc1
            have d2 := sumS_len _ _ _ _ hs1
            have d3 := mustS_len hS
            have hbs : bodyS acc b = (rulesGo xS.l.length [] xS).bind fun rs => if (hdT rs.2).kind = 0 then some (⟨acc, s1.1, rs.1⟩, rs.2) else none := by
              rw [bodyS, hc1]; simp only [Option.bind_some, hs1, hS]
            rw [hbs]
            generalize hRR : rulesGo xS.l.length [] xS = RR
            refine LoopP.inv (X := ax g) (fun z : List RuleT × SP => { f := [(0, .ptr 9000 0), (2, .ptr 2 0), (3, .ptr 3 0)], h := outH acc z.1 s1.1.op s1.1.f s1.1.n (.sl false 4 (s1.1.kids.map rowO4)) z.2 }) (fun z => z.1.length + z.2.l.length ≤ N ∧ ∃ n, z.2.l.length ≤ n ∧ rulesGo n z.1 z.2 = RR) (fun z => z.2.l.length) ([], xS) ⟨by show 0 + xS.l.length ≤ N; omega, xS.l.length, Nat.le_refl _, hRR⟩ ⟨⟨rfl, rfl, rfl, trivial⟩, ⟨fun o h => h, fun o h => h, fun o h => h, fun o h => h, fun o h => h, fun o h => h, trivial⟩⟩ fun z hz => ?_
            obtain ⟨rs, z⟩ := z
            obtain ⟨e0, nn, e1, e3⟩ := hz
            replace e0 : rs.length + z.l.length ≤ N := e0
            replace e1 : z.l.length ≤ nn := e1
            have hposz : 0 < z.l.length := by
              obtain ⟨l, ok, ns, u, tw⟩ := z
              cases l with
              | nil => exact ok.not_nil.elim
              | cons t r => simp
            obtain ⟨mm, rfl⟩ : ∃ m, nn = m + 1 := ⟨nn - 1, by omega⟩
            replace e3 : rulesGo (mm + 1) rs z = RR := e3
            have htz := take_ctr g z onC (by decide)
            have htlz := takeS_len (s := onC) (p := z)
            conv => whnf
            repeat' (first | (refine And.intro easyA ?_; conv => whnf) | (refine ifB_intro (fun hA => ?_) (fun hA => ?_) <;> (try rw [hA]) <;> (conv => whnf) <;> (first | replace hA := nrmA hA | replace hA := nrmB hA | replace hA := nrmC hA | replace hA := nrmD hA | replace hA := nrmE hA | replace hA := nrmF hA | skip) <;> (try simp only [List.length_map, cond_true, cond_false, Bool.not_eq_true', Bool.not_eq_false', beq_iff_eq, beq_eq_false_iff_ne, ne_eq] at hA)) | (refine CallP.hlb (htz) (by (conv => whnf); repeat' first | exact trivial | refine And.intro (fun _ h => h) ?_) rfl ?_; conv => whnf) | (refine CallD.hlb (htz) (by (conv => whnf); repeat' first | exact trivial | refine And.intro (fun _ h => h) ?_) ?_; conv => whnf) | (rw [getD_map _ _ _ _ (by assumption)]; conv => whnf))
            · have hru := rule5_ctr g N hN0 (takeS onC z).2 (by omega)
              have e4 : (ruleS (takeS onC z).2).bind (fun x => rulesGo mm (rs ++ [x.1]) x.2) = RR := by rw [← e3, rulesGo, if_pos hA]
              cases hP3 : ruleS (takeS onC z).2 with
              | none =>
                have hc3 := hru.none hP3
                have e5 : RR = none := by rw [← e4, hP3]; rfl
                refine DrawP.any (X := ax g) (by decide +kernel) ?_
                conv => whnf
                repeat' (first | (refine And.intro easyA ?_; conv => whnf) | (refine ifB_intro (fun hA => ?_) (fun hA => ?_) <;> (try rw [hA]) <;> (conv => whnf) <;> (first | replace hA := nrmA hA | replace hA := nrmB hA | replace hA := nrmC hA | replace hA := nrmD hA | replace hA := nrmE hA | replace hA := nrmF hA | skip) <;> (try simp only [List.length_map, cond_true, cond_false, Bool.not_eq_true', Bool.not_eq_false', beq_iff_eq, beq_eq_false_iff_ne, ne_eq] at hA)) | (refine CallP.dies (hc3) (by (conv => whnf); repeat' first | exact trivial | refine And.intro (fun _ h => h) ?_) ?_; (conv => whnf); refine ⟨⟨[], trivial, rfl, ?_⟩⟩) | (refine BothP.mk ?_ ?_ <;> conv => whnf) | (rw [getD_map _ _ _ _ (by assumption)]; conv => whnf))
                all_goals (rw [e5]; rfl)
              | some y3 =>
                obtain ⟨r3, z3⟩ := y3
                have hc3 := hru.some hP3
                rw [hP3] at e4
                refine DrawP.intro (X := ax g) (id := 18) B118_18 (by kernel_rfl) (by decide +kernel) ?_
                conv => whnf
                repeat' (first | (refine And.intro easyA ?_; conv => whnf) | (refine ifB_intro (fun hA => ?_) (fun hA => ?_) <;> (try rw [hA]) <;> (conv => whnf) <;> (first | replace hA := nrmA hA | replace hA := nrmB hA | replace hA := nrmC hA | replace hA := nrmD hA | replace hA := nrmE hA | replace hA := nrmF hA | skip) <;> (try simp only [List.length_map, cond_true, cond_false, Bool.not_eq_true', Bool.not_eq_false', beq_iff_eq, beq_eq_false_iff_ne, ne_eq] at hA)) | (refine CallP.hlb (hc3) (by (conv => whnf); repeat' first | exact trivial | refine And.intro (fun _ h => h) ?_) rfl ?_; conv => whnf) | (refine CallD.hlb (hc3) (by (conv => whnf); repeat' first | exact trivial | refine And.intro (fun _ h => h) ?_) ?_; conv => whnf) | (refine And.intro (by first | exact (List.length_map ..).symm | (simp only [List.length_map, List.length_cons, List.length_nil]; omega)) ?_; conv => whnf) | (rw [getD_map _ _ _ _ (by assumption)]; conv => whnf))
                have hz3 := ruleS_len hP3
                have hzz := htlz.2 hA
                refine ⟨(rs ++ [r3], z3), ⟨by show (rs ++ [r3]).length + z3.l.length ≤ N; simp only [List.length_append, List.length_cons, List.length_nil]; omega, mm, by show z3.l.length ≤ mm; omega, e4⟩, by show z3.l.length < z.l.length; omega, ⟨⟨rfl, rfl, rfl, trivial⟩, ⟨fun o h => h, fun o h => ?_, fun o h => h, fun o h => ?_, fun o h => h, fun o h => h, trivial⟩⟩⟩
                · rw [← h]; simp; rfl
                · rw [← h]; simp; rfl
            · have e6 : RR = some (rs, (takeS onC z).2) := by rw [← e3, rulesGo, if_neg (by simp [hA])]
              rw [e6]
              generalize (takeS onC z).2 = zz
              obtain ⟨l, ok, ns, u, tw⟩ := zz
              cases l with
              | nil => exact ok.not_nil.elim
              | cons t r =>
                repeat' (first | (refine And.intro easyA ?_; conv => whnf) | (refine ifB_intro (fun hA => ?_) (fun hA => ?_) <;> (try rw [hA]) <;> (conv => whnf) <;> (first | replace hA := nrmA hA | replace hA := nrmB hA | replace hA := nrmC hA | replace hA := nrmD hA | replace hA := nrmE hA | replace hA := nrmF hA | skip) <;> (try simp only [ne_eq] at hA)) | (refine CallP.fails (fail_ctr g) ?_; (conv => whnf); refine ⟨⟨[], trivial, rfl, ?_⟩⟩) | (rw [getD_map _ _ _ _ (by assumption)]; conv => whnf))
                · simp only [Option.bind_some]
                  rw [if_neg (show ¬(hdT ⟨t :: r, ok, ns, u, tw⟩).kind = 0 from hA)]; rfl
                · simp only [Option.bind_some]
                  rw [if_pos (show (hdT ⟨t :: r, ok, ns, u, tw⟩).kind = 0 from hA)]
                  refine ⟨⟨spH ⟨t :: r, ok, ns, u, tw⟩, ?_⟩⟩
                  conv => whnf
                  repeat' (first | (refine And.intro easyA ?_; conv => whnf) | (refine ifB_intro (fun hA => ?_) (fun hA => ?_) <;> (try rw [hA]) <;> (conv => whnf) <;> (first | replace hA := nrmA hA | replace hA := nrmB hA | replace hA := nrmC hA | replace hA := nrmD hA | replace hA := nrmE hA | replace hA := nrmF hA | skip) <;> (try simp only [List.length_map, cond_true, cond_false, Bool.not_eq_true', Bool.not_eq_false', beq_iff_eq, beq_eq_false_iff_ne, ne_eq] at hA)) | (refine And.intro ⟨fun o h => h, fun o h => h, trivial⟩ ?_; conv => whnf) | (refine And.intro (by first | exact (List.length_map ..).symm | (simp only [List.length_map, Nat.zero_add]; omega)) ?_; conv => whnf) | (rw [getD_map _ _ _ _ (by assumption)]; conv => whnf))
                  have t1 : List.take acc.length (List.drop 0 (acc.map rowS)) = acc.map rowS := by simp [← List.map_take]
                  have t2 : List.take rs.length (List.drop 0 (rs.map rowR)) = rs.map rowR := by simp [← List.map_take]
                  show AOut.ret (.agg [.d (.sl false 1 (List.take acc.length (List.drop 0 (acc.map rowS)))), .d (.i64 s1.1.op), .d (.i64 s1.1.f), .d (.u16 s1.1.n), .d (.sl false 4 (s1.1.kids.map rowO4)), .d (.sl false 3 (List.take rs.length (List.drop 0 (rs.map rowR))))]) _ = _
                  rw [t1, t2]
                  rfl
end Go.Ax

namespace Go.Ax
open Go.Proofs Go.Lib
set_option maxRecDepth 10000
def fieldX (f : Int) (sign : List UInt8) (n : Int) : List Lx := [.w (nameF f).data.toList, .m sign, .n n.toNat]
def partX (f : Int) (sign : List UInt8) (n : Int) : List Lx := [.m [64], .n f.toNat, .m sign, .n n.toNat]
def headX (op f n : Int) : List Lx :=
  if op = 0 then [.w [100, 114, 111, 112]] else if op = 1 then [.w [105, 100]] else if op = 2 then fieldX f [61] n
  else if op = 5 then fieldX f [58, 61] n else if op = 3 then partX f [61] n else if op = 4 then [.m [33]] else []
def signX (op : Int) : List UInt8 := if op = 6 then [59] else [43]
def sepsX (op : Int) : List Lx := [.s 32, .m (signX op), .s 32]
mutual
def polX : PolT → List Lx
  | .mk op f n kids => headX op f n ++ kidsX op kids true
def kidsX (of : Int) : List PolT → Bool → List Lx
  | [], _ => []
  | p :: l, first => (if first then [] else sepsX of) ++ ((if bareB of p.op then polX p else .m [40] :: (polX p ++ [.m [41]])) ++ kidsX of l false)
end
def kidX (of : Int) (p : PolT) : List Lx := if bareB of p.op then polX p else .m [40] :: (polX p ++ [.m [41]])
theorem polX_at (p : PolT) : polX p = headX p.op p.f p.n ++ kidsX p.op p.kids true := by cases p; rw [polX]; rfl
theorem kidsX_cons (of : Int) (p : PolT) (l : List PolT) (b : Bool) : kidsX of (p :: l) b = (if b then [] else sepsX of) ++ (kidX of p ++ kidsX of l false) := by rw [kidsX]; rfl
theorem bdat (a b : ByteArray) : (a ++ b).data.toList = a.data.toList ++ b.data.toList := by rw [ByteArray.data_append]; simp
theorem digB_dat (n : Nat) : (digB n).data.toList = decDigits n := by simp [digB]
theorem txt_field (f : Int) (sign : List UInt8) (n : Int) : txtX (fieldX f sign n) = (nameF f).data.toList ++ (sign ++ decDigits n.toNat) := by simp [fieldX, txtX, Lx.txt]
theorem txt_part (f : Int) (sign : List UInt8) (n : Int) : txtX (partX f sign n) = 64 :: (decDigits f.toNat ++ (sign ++ decDigits n.toNat)) := by simp [partX, txtX, Lx.txt]
theorem txt_head (op f n : Int) : txtX (headX op f n) = (headB op f n).data.toList := by
  unfold headX headB
  repeat' split
  all_goals first
    | rfl
    | (rw [txt_field, bdat, bdat, digB_dat, List.append_assoc]; done)
    | (rw [txt_part, partB, bdat, bdat, bdat, digB_dat, digB_dat]; simp; done)
theorem txt_seps (op : Int) : txtX (sepsX op) = (sepB op).data.toList := by
  unfold sepsX signX sepB
  split <;> rfl
mutual
theorem txt_pol : ∀ p : PolT, txtX (polX p) = (polB p).data.toList
  | .mk op f n kids => by rw [polX, polB, txtX_app, txt_head, txt_kids op kids true, bdat]
theorem txt_kids (of : Int) : ∀ (l : List PolT) (b : Bool), txtX (kidsX of l b) = (kidsB of l b).data.toList
  | [], b => by rw [kidsX, kidsB]; rfl
  | p :: l, b => by
    have h1 := txt_pol p
    have h2 := txt_kids of l false
    rw [kidsX, kidsB, txtX_app, txtX_app, bdat, bdat, h2]
    congr 1
    · cases b
      · exact txt_seps of
      · rfl
    · congr 1
      split
      · exact h1
      · rw [txtX_cons, txtX_app, h1, bdat, bdat]; rfl
end

theorem name_ok {f : Int} (h : 0 ≤ f ∧ f < 8) : (Lx.w (nameF f).data.toList).ok = true := by
  obtain rfl | rfl | rfl | rfl | rfl | rfl | rfl | rfl : f = 0 ∨ f = 1 ∨ f = 2 ∨ f = 3 ∨ f = 4 ∨ f = 5 ∨ f = 6 ∨ f = 7 := by omega
  all_goals decide
def OkX (L : List Lx) : Prop := (∀ x ∈ L, x.ok = true) ∧ sepX L = true
theorem OkX.mid {a b : List Lx} {x : Lx} (hx : x.ok = true) (hw : x.wl = false) (ha : OkX a) (hb : OkX b) : OkX (a ++ x :: b) :=
  ⟨fun y hy => by
    rcases List.mem_append.1 hy with hy | hy
    · exact ha.1 y hy
    · rcases List.mem_cons.1 hy with rfl | hy
      · exact hx
      · exact hb.1 y hy, sepX_mid hw a b ha.2 hb.2⟩
theorem OkX.nil : OkX [] := ⟨by simp, rfl⟩
theorem OkX.field {f : Int} {sign : List UInt8} {n : Int} (hf : 0 ≤ f ∧ f < 8) (hs : (Lx.m sign).ok = true) (hn : 0 ≤ n ∧ n < 65536) : OkX (fieldX f sign n) :=
  ⟨fun x hx => by
    simp only [fieldX, List.mem_cons, List.not_mem_nil, or_false] at hx
    rcases hx with rfl | rfl | rfl
    · exact name_ok hf
    · exact hs
    · simp [Lx.ok]; omega, rfl⟩
theorem OkX.part {f : Int} {sign : List UInt8} {n : Int} (hf : 0 ≤ f ∧ f < 65536) (hs : (Lx.m sign).ok = true) (hn : 0 ≤ n ∧ n < 65536) : OkX (partX f sign n) :=
  ⟨fun x hx => by
    simp only [partX, List.mem_cons, List.not_mem_nil, or_false] at hx
    rcases hx with rfl | rfl | rfl | rfl
    · decide
    · simp [Lx.ok]; omega
    · exact hs
    · simp [Lx.ok]; omega, rfl⟩
theorem OkX.seps (op : Int) {a b : List Lx} (ha : OkX a) (hb : OkX b) : OkX (a ++ (sepsX op ++ b)) := by
  have hs : (Lx.m (signX op)).ok = true := by unfold signX; split <;> decide
  have h1 : OkX ([] ++ Lx.s 32 :: b) := OkX.mid (by decide) rfl .nil hb
  have h2 : OkX ([] ++ Lx.m (signX op) :: Lx.s 32 :: b) := OkX.mid hs rfl .nil h1
  exact OkX.mid (x := .s 32) (by decide) rfl ha h2
theorem OkX.par {a b : List Lx} (ha : OkX a) (hb : OkX b) : OkX (.m [40] :: (a ++ .m [41] :: b)) := by
  have h1 : OkX (a ++ Lx.m [41] :: b) := OkX.mid (by decide) rfl ha hb
  exact OkX.mid (x := .m [40]) (by decide) rfl .nil h1
theorem OkX.kids {of : Int} : ∀ (l : List PolT), (∀ p ∈ l, OkX (kidX of p)) → ∀ a, OkX a → OkX (a ++ kidsX of l false)
  | [], _, a, ha => by rw [kidsX, List.append_nil]; exact ha
  | p :: l, h, a, ha => by
    rw [kidsX_cons]
    exact OkX.seps of ha (OkX.kids l (fun q hq => h q (by simp [hq])) _ (h p (by simp)))
theorem formP_all {k : Int} {p : PolT} (h : formP k p = true) : ∀ q ∈ p.kids, formP k q = true := fun q hq => by
  obtain ⟨i, hi, rfl⟩ := List.getElem_of_mem hq
  exact formP_kids h hi
theorem sizeP_kid {p q : PolT} (h : q ∈ p.kids) : sizeP q < sizeP p := by
  cases p with
  | mk op f n kids => have h2 : sizeP q ≤ sizesP kids := sizesP_mem h; rw [sizeP]; omega
theorem OkX.pol {k : Int} (hk : k ≤ 60000) : ∀ (m : Nat) (p : PolT), sizeP p ≤ m → okPol p → formP k p = true → OkX (polX p)
  | 0, p, h, _, _ => by have := sizeP_pos p; omega
  | m + 1, p, hm, ho, hf => by
    obtain ⟨hn, hks⟩ := (okPol_at p).1 ho
    obtain ⟨f0, f1, f2⟩ := formP_f hf hk
    have ih : ∀ of, ∀ q ∈ p.kids, OkX (kidX of q) := fun of q hq => by
      have := sizeP_kid hq
      have hp := OkX.pol hk m q (by omega) (okPols_mem hks hq) (formP_all hf q hq)
      unfold kidX
      split
      · exact hp
      · exact OkX.par hp .nil
    have hleaf : p.kids = [] → ¬ p.op = 4 → OkX (polX p) := fun h h4 => by
      rw [polX_at, h, kidsX, List.append_nil]
      unfold headX
      split
      · exact ⟨by decide, rfl⟩
      · split
        · exact ⟨by decide, rfl⟩
        · split
          · exact OkX.field ⟨f0, f2 (.inl ‹_›)⟩ (by decide) hn
          · split
            · exact OkX.field ⟨f0, f2 (.inr ‹_›)⟩ (by decide) hn
            · split
              · exact OkX.part ⟨f0, by omega⟩ (by decide) hn
              · first | exact OkX.nil | (split; exact absurd ‹_› h4; exact OkX.nil)
    by_cases h4 : p.op = 4
    · have h1 := formP_not hf h4
      obtain ⟨q, hq⟩ : ∃ q, p.kids = [q] := List.length_eq_one_iff.1 h1
      rw [polX_at, hq, kidsX_cons, kidsX, h4]
      show OkX (headX 4 p.f p.n ++ ([] ++ (kidX 4 q ++ [])))
      rw [List.nil_append, List.append_nil]
      exact OkX.mid (x := .m [33]) (a := []) (by decide) rfl .nil (ih 4 q (by rw [hq]; simp))
    · by_cases h67 : p.op = 6 ∨ p.op = 7
      · have hh : headX p.op p.f p.n = [] := by
          unfold headX
          rcases h67 with h | h <;> rw [h] <;> rfl
        rw [polX_at, hh, List.nil_append]
        cases hks2 : p.kids with
        | nil => rw [kidsX]; exact .nil
        | cons q l =>
          rw [kidsX_cons]
          show OkX ([] ++ (kidX p.op q ++ kidsX p.op l false))
          rw [List.nil_append]
          exact OkX.kids l (fun r hr => ih _ r (by rw [hks2]; simp [hr])) _ (ih _ q (by rw [hks2]; simp))
      · exact hleaf (formP_leaf hf h4 (fun h => h67 (.inl h)) (fun h => h67 (.inr h))) h4
def mkS (l : List TokT) (h : EndT l) : SP := ⟨l, h, [], false, false⟩
theorem EndT.app {R : List TokT} (a : List TokT) (h : EndT R) : EndT (a ++ R) := by
  obtain ⟨i, rfl⟩ := h
  exact ⟨a ++ i, by simp⟩
def tW (w : ByteArray) : TokT := ⟨1, w, 0⟩
def tM (w : ByteArray) : TokT := ⟨3, w, 0⟩
def tN (n : Int) : TokT := ⟨2, ⟨#[]⟩, n⟩
theorem take_yes {t : TokT} {R : List TokT} (hk : t.kind = 1 ∨ t.kind = 3) (h : EndT (t :: R)) (hR : EndT R) : takeS t.s (mkS (t :: R) h) = (true, mkS R hR) := by
  unfold takeS
  have h1 : (peekS (mkS (t :: R) h)).data.toList = t.s.data.toList := by
    unfold peekS
    rw [if_pos (show (hdT (mkS (t :: R) h)).kind = 1 ∨ (hdT (mkS (t :: R) h)).kind = 3 from hk)]; rfl
  have h2 : (hdT (mkS (t :: R) h)).kind ≠ 0 := by show t.kind ≠ 0; omega
  rw [dif_pos ⟨h1, h2⟩]
  rfl
theorem take_no {s : ByteArray} {t : TokT} {R : List TokT} (hne : (t.kind = 1 ∨ t.kind = 3) → t.s.data.toList ≠ s.data.toList) (hs : s ≠ ⟨#[]⟩) (h : EndT (t :: R)) : takeS s (mkS (t :: R) h) = (false, mkS (t :: R) h) := by
  unfold takeS
  rw [dif_neg]
  rintro ⟨h1, _⟩
  unfold peekS at h1
  split at h1
  · rename_i hk; exact hne hk h1
  · apply hs
    have : s.data = #[] := Array.toList_inj.1 h1.symm
    cases s; simp_all
theorem list_go {α : Type} {sign : ByteArray} {one : SP → Option (α × SP)} {kt : α → List TokT} {sg : TokT} (hsk : sg.kind = 1 ∨ sg.kind = 3) (hss : sg.s = sign) (Ok : List TokT → Prop) (hOkS : ∀ R, Ok (sg :: R)) {R : List TokT} (hR : EndT R) (hok : Ok R) (hno : takeS sign (mkS R hR) = (false, mkS R hR)) :
    ∀ (l : List α), (∀ x ∈ l, ∀ R h hR, Ok R → one (mkS (kt x ++ R) h) = some (x, mkS R hR)) → ∀ (acc : List α) (n : Nat) (h : EndT ((l.flatMap fun x => sg :: kt x) ++ R)), l.length < n → listGo sign one n acc (mkS ((l.flatMap fun x => sg :: kt x) ++ R) h) = some (acc ++ l, mkS R hR)
  | [], _, acc, n, h, hn => by
    obtain ⟨n, rfl⟩ : ∃ m, n = m + 1 := ⟨n - 1, by omega⟩
    have e : takeS sign (mkS (([].flatMap fun x => sg :: kt x) ++ R) h) = (false, mkS R hR) := hno
    rw [listGo_done (by rw [e]), e, List.append_nil]
  | x :: l, hone, acc, n, h, hn => by
    obtain ⟨n, rfl⟩ : ∃ m, n = m + 1 := ⟨n - 1, by omega⟩
    have hE : EndT ((l.flatMap fun x => sg :: kt x) ++ R) := hR.app _
    have e0 : (((x :: l).flatMap fun x => sg :: kt x) ++ R) = sg :: (kt x ++ ((l.flatMap fun x => sg :: kt x) ++ R)) := by simp
    have hE2 : EndT (kt x ++ ((l.flatMap fun x => sg :: kt x) ++ R)) := hE.app _
    have e : takeS sign (mkS (((x :: l).flatMap fun x => sg :: kt x) ++ R) h) = (true, mkS _ hE2) := by
      have h' := h
      rw [e0] at h'
      have := take_yes hsk h' hE2
      rw [hss] at this
      rw [← this]
      congr 2
    have hOk : Ok ((l.flatMap fun x => sg :: kt x) ++ R) := by
      cases l with
      | nil => exact hok
      | cons y l => rw [show ((y :: l).flatMap fun x => sg :: kt x) ++ R = sg :: (kt y ++ ((l.flatMap fun x => sg :: kt x) ++ R)) from by simp]; exact hOkS _
    have h1 := hone x (by simp) _ hE2 hE hOk
    rw [listGo_more (by rw [e]) (by rw [e]; exact h1), list_go hsk hss Ok hOkS hR hok hno l (fun y hy => hone y (by simp [hy])) _ n hE (by simp at hn; omega), List.append_assoc]
    rfl
theorem list_all {α : Type} {sign : ByteArray} {one : SP → Option (α × SP)} {kt : α → List TokT} {sg : TokT} (hsk : sg.kind = 1 ∨ sg.kind = 3) (hss : sg.s = sign) (Ok : List TokT → Prop) (hOkS : ∀ R, Ok (sg :: R)) {R : List TokT} (hR : EndT R) (hok : Ok R) (hno : takeS sign (mkS R hR) = (false, mkS R hR))
    (x : α) (l : List α) (hone : ∀ y ∈ x :: l, ∀ R h hR, Ok R → one (mkS (kt y ++ R) h) = some (y, mkS R hR)) (h : EndT (kt x ++ ((l.flatMap fun x => sg :: kt x) ++ R))) : listS sign one (mkS (kt x ++ ((l.flatMap fun x => sg :: kt x) ++ R)) h) = some (x :: l, mkS R hR) := by
  have hE : EndT ((l.flatMap fun x => sg :: kt x) ++ R) := hR.app _
  have hOk : Ok ((l.flatMap fun x => sg :: kt x) ++ R) := by
    cases l with
    | nil => exact hok
    | cons y l => rw [show ((y :: l).flatMap fun x => sg :: kt x) ++ R = sg :: (kt y ++ ((l.flatMap fun x => sg :: kt x) ++ R)) from by simp]; exact hOkS _
  have hlen : ∀ l : List α, l.length ≤ (l.flatMap fun x => sg :: kt x).length := fun l => by
    induction l with
    | nil => simp
    | cons y l ih => simp only [List.flatMap_cons, List.length_append, List.length_cons]; omega
  unfold listS
  rw [hone x (by simp) _ h hE hOk]
  show listGo sign one (((l.flatMap fun x => sg :: kt x) ++ R).length + 1) [x] _ = _
  have := hlen l
  rw [list_go hsk hss Ok hOkS hR hok hno l (fun y hy => hone y (by simp [hy])) _ _ hE (by rw [List.length_append]; omega)]
  rfl
end Go.Ax

namespace Go.Ax
open Go.Proofs Go.Lib
set_option maxRecDepth 10000
theorem ba_list (s : ByteArray) : (⟨s.data.toList.toArray⟩ : ByteArray) = s := by cases s; simp
theorem tok_field {f : Int} {sign : List UInt8} {n : Int} (hn : 0 ≤ n) : tokX (fieldX f sign n) = [tW (nameF f), tM ⟨sign.toArray⟩, tN n] := by
  simp only [fieldX, tokX, List.map_cons, List.map_nil, Lx.tok, List.flatten_cons, List.flatten_nil, List.cons_append, List.nil_append, List.append_nil]
  rw [ba_list, Int.toNat_of_nonneg hn]; rfl
theorem tok_part {f : Int} {sign : List UInt8} {n : Int} (hf : 0 ≤ f) (hn : 0 ≤ n) : tokX (partX f sign n) = [tM ⟨#[64]⟩, tN f, tM ⟨sign.toArray⟩, tN n] := by
  simp only [partX, tokX, List.map_cons, List.map_nil, Lx.tok, List.flatten_cons, List.flatten_nil, List.cons_append, List.nil_append, List.append_nil]
  rw [Int.toNat_of_nonneg hn, Int.toNat_of_nonneg hf]; rfl
theorem atom_id (sum : SP → Option (PolT × SP)) (R : List TokT) (hR : EndT R) (h : EndT (tW ⟨#[105, 100]⟩ :: R)) : atomS sum (mkS (tW ⟨#[105, 100]⟩ :: R) h) = some (.mk 1 0 0 [], mkS R hR) := rfl
theorem atom_drop (sum : SP → Option (PolT × SP)) (R : List TokT) (hR : EndT R) (h : EndT (tW ⟨#[100, 114, 111, 112]⟩ :: R)) : atomS sum (mkS (tW ⟨#[100, 114, 111, 112]⟩ :: R) h) = some (.mk 0 0 0 [], mkS R hR) := rfl
theorem atom_test (sum : SP → Option (PolT × SP)) (f n : Int) (hf : 0 ≤ f ∧ f < 8) (R : List TokT) (hR : EndT R) (h : EndT (tW (nameF f) :: tM ⟨#[61]⟩ :: tN n :: R)) : atomS sum (mkS (tW (nameF f) :: tM ⟨#[61]⟩ :: tN n :: R) h) = some (.mk 2 f n [], mkS R hR) := by
  obtain rfl | rfl | rfl | rfl | rfl | rfl | rfl | rfl : f = 0 ∨ f = 1 ∨ f = 2 ∨ f = 3 ∨ f = 4 ∨ f = 5 ∨ f = 6 ∨ f = 7 := by omega
  all_goals rfl
theorem atom_put (sum : SP → Option (PolT × SP)) (f n : Int) (hf : 0 ≤ f ∧ f < 8) (R : List TokT) (hR : EndT R) (h : EndT (tW (nameF f) :: tM ⟨#[58, 61]⟩ :: tN n :: R)) : atomS sum (mkS (tW (nameF f) :: tM ⟨#[58, 61]⟩ :: tN n :: R) h) = some (.mk 5 f n [], mkS R hR) := by
  obtain rfl | rfl | rfl | rfl | rfl | rfl | rfl | rfl : f = 0 ∨ f = 1 ∨ f = 2 ∨ f = 3 ∨ f = 4 ∨ f = 5 ∨ f = 6 ∨ f = 7 := by omega
  all_goals rfl
theorem part_as (f n : Int) (R : List TokT) (hR : EndT R) (h : EndT (tM ⟨#[64]⟩ :: tN f :: tM ⟨#[58, 61]⟩ :: tN n :: R)) : partS asB (mkS (tM ⟨#[64]⟩ :: tN f :: tM ⟨#[58, 61]⟩ :: tN n :: R) h) = some ((IntKind.i64.wrap f, n), mkS R hR) := rfl
theorem atom_state (sum : SP → Option (PolT × SP)) (f n : Int) (R : List TokT) (hR : EndT R) (h : EndT (tM ⟨#[64]⟩ :: tN f :: tM ⟨#[61]⟩ :: tN n :: R)) : atomS sum (mkS (tM ⟨#[64]⟩ :: tN f :: tM ⟨#[61]⟩ :: tN n :: R) h) = some (.mk 3 (IntKind.i64.wrap f) n [], mkS R hR) := rfl
theorem atom_par (sum : SP → Option (PolT × SP)) (A R : List TokT) (hA : EndT A) (hB : EndT (tM ⟨#[41]⟩ :: R)) (hR : EndT R) (h : EndT (tM ⟨#[40]⟩ :: A)) (p : PolT) (hs : sum (mkS A hA) = some (p, mkS (tM ⟨#[41]⟩ :: R) hB)) : atomS sum (mkS (tM ⟨#[40]⟩ :: A) h) = some (p, mkS R hR) := by
  have e : atomS sum (mkS (tM ⟨#[40]⟩ :: A) h) = (sum (mkS A hA)).bind fun x => (mustS rparB x.2).bind fun q => some (x.1, q) := rfl
  rw [e, hs]
  rfl
theorem unary_atom {sum : SP → Option (PolT × SP)} {n : Nat} {t : TokT} {R : List TokT} (h : EndT (t :: R)) (hne : (t.kind = 1 ∨ t.kind = 3) → t.s.data.toList ≠ [33]) : unaryS sum (n + 1) (mkS (t :: R) h) = atomS sum (mkS (t :: R) h) := by
  have e : takeS bangB (mkS (t :: R) h) = (false, mkS (t :: R) h) := take_no hne (by decide) h
  rw [unaryS, e]
  rfl
theorem unary_not {sum : SP → Option (PolT × SP)} {n : Nat} {A R : List TokT} {p : PolT} (h : EndT (tM ⟨#[33]⟩ :: A)) (hA : EndT A) (hR : EndT R) (hs : unaryS sum n (mkS A hA) = some (p, mkS R hR)) : unaryS sum (n + 1) (mkS (tM ⟨#[33]⟩ :: A) h) = some (.mk 4 0 0 [p], mkS R hR) := by
  have e : takeS bangB (mkS (tM ⟨#[33]⟩ :: A) h) = (true, mkS A hA) := take_yes (t := tM ⟨#[33]⟩) (.inr rfl) h hA
  rw [unaryS, e]
  show (unaryS sum n (mkS A hA)).bind _ = _
  rw [hs]; rfl
def NotSemi (R : List TokT) : Prop := ∀ hR, takeS semiB (mkS R hR) = (false, mkS R hR)
def NotPlus (R : List TokT) : Prop := ∀ hR, takeS plusB (mkS R hR) = (false, mkS R hR)
theorem notSemi_plus (R : List TokT) : NotSemi (tM ⟨#[43]⟩ :: R) := fun hR => take_no (fun _ => by decide) (by decide) hR
theorem notSemi_rpar (R : List TokT) : NotSemi (tM ⟨#[41]⟩ :: R) := fun hR => take_no (fun _ => by decide) (by decide) hR
theorem notPlus_rpar (R : List TokT) : NotPlus (tM ⟨#[41]⟩ :: R) := fun hR => take_no (fun _ => by decide) (by decide) hR
theorem notSemi_dot (R : List TokT) : NotSemi (tM ⟨#[46]⟩ :: R) := fun hR => take_no (fun _ => by decide) (by decide) hR
theorem notPlus_dot (R : List TokT) : NotPlus (tM ⟨#[46]⟩ :: R) := fun hR => take_no (fun _ => by decide) (by decide) hR
def kidT (of : Int) (p : PolT) : List TokT := tokX (kidX of p)
theorem kidT_bare {of : Int} {p : PolT} (h : bareB of p.op = true) : kidT of p = tokX (polX p) := by unfold kidT kidX; rw [if_pos h]
theorem kidT_par {of : Int} {p : PolT} (h : bareB of p.op = false) : kidT of p = tM ⟨#[40]⟩ :: (tokX (polX p) ++ [tM ⟨#[41]⟩]) := by
  unfold kidT kidX; rw [if_neg (by simp [h]), tokX_cons, tokX_app]; rfl
theorem tok_kids (of : Int) : ∀ l : List PolT, tokX (kidsX of l false) = l.flatMap fun x => tM ⟨(signX of).toArray⟩ :: kidT of x
  | [] => by rw [kidsX]; rfl
  | p :: l => by
    rw [kidsX_cons, tokX_app, tokX_app, tok_kids of l, List.flatMap_cons]
    rfl
theorem tok_pol {p : PolT} {q : PolT} {l : List PolT} (h : p.op = 6 ∨ p.op = 7) (hk : p.kids = q :: l) : tokX (polX p) = kidT p.op q ++ l.flatMap fun x => tM ⟨(signX p.op).toArray⟩ :: kidT p.op x := by
  have hh : headX p.op p.f p.n = [] := by
    unfold headX
    rcases h with h | h <;> rw [h] <;> rfl
  rw [polX_at, hh, List.nil_append, hk, kidsX_cons, tokX_app, tokX_app, tok_kids]
  rfl
structure WfP (k : Int) (p : PolT) : Prop where
  ok : okPol p
  fm : formP k p = true
theorem WfP.kid {k : Int} {p q : PolT} (h : WfP k p) (hq : q ∈ p.kids) : WfP k q := ⟨okPols_mem ((okPol_at p).1 h.ok).2 hq, formP_all h.fm q hq⟩
theorem WfP.join {k : Int} {p : PolT} (h : WfP k p) (h67 : p.op = 6 ∨ p.op = 7) : p = .mk p.op 0 0 p.kids ∧ 2 ≤ p.kids.length := by
  have h1 := h.fm
  rw [formP_at, if_neg (by omega), if_neg (by omega), if_pos h67] at h1
  simp only [Bool.and_eq_true, decide_eq_true_eq, beq_iff_eq] at h1
  cases p with
  | mk op f n kids =>
    obtain ⟨⟨h2, h3, h4⟩, _⟩ := h1
    simp only [PolT.f, PolT.n] at h3 h4
    subst h3; subst h4
    exact ⟨rfl, h2⟩
theorem mkS_eq {l l' : List TokT} (e : l = l') (h : EndT l) (h' : EndT l') : mkS l h = mkS l' h' := by subst e; rfl
theorem name_bang {f : Int} (h : 0 ≤ f ∧ f < 8) : (tW (nameF f)).s.data.toList ≠ [33] := by
  obtain rfl | rfl | rfl | rfl | rfl | rfl | rfl | rfl : f = 0 ∨ f = 1 ∨ f = 2 ∨ f = 3 ∨ f = 4 ∨ f = 5 ∨ f = 6 ∨ f = 7 := by omega
  all_goals decide
theorem leaf_atom {k : Int} (hk : k ≤ 60000) {p : PolT} (h : WfP k p) (h4 : ¬ p.op = 4) (h6 : ¬ p.op = 6) (h7 : ¬ p.op = 7) (sum : SP → Option (PolT × SP)) (n : Nat) (R : List TokT) (hR : EndT R) (hA : EndT (tokX (polX p) ++ R)) : unaryS sum (n + 1) (mkS (tokX (polX p) ++ R) hA) = some (p, mkS R hR) := by
  have hkids := formP_leaf h.fm h4 h6 h7
  obtain ⟨f0, f1, f2⟩ := formP_f h.fm hk
  obtain ⟨hn, _⟩ := (okPol_at p).1 h.ok
  have ht : tokX (polX p) = tokX (headX p.op p.f p.n) := by rw [polX_at, hkids, kidsX, List.append_nil]
  have hw : IntKind.i64.wrap p.f = p.f := i64_wrap (by omega) (by omega)
  have c1 : p.op = 0 ∨ p.op = 1 → p.f = 0 ∧ p.n = 0 := fun h01 => by
    have h1 := h.fm
    rw [formP_at, if_pos h01] at h1
    simp only [Bool.and_eq_true, beq_iff_eq] at h1
    exact h1.2
  have c2 : ¬ (p.op = 0 ∨ p.op = 1) → p.op = 2 ∨ p.op = 5 ∨ p.op = 3 := fun h01 => by
    have h1 := h.fm
    rw [formP_at, if_neg h01, if_neg h4, if_neg (by omega)] at h1
    by_cases h2 : p.op = 2
    · exact .inl h2
    · by_cases h5 : p.op = 5
      · exact .inr (.inl h5)
      · by_cases h3 : p.op = 3
        · exact .inr (.inr h3)
        · rw [if_neg h2, if_neg h5, if_neg h3] at h1
          exact absurd h1 (by simp)
  have go : ∀ L, tokX (headX p.op p.f p.n) ++ R = L → (∀ hL : EndT L, unaryS sum (n + 1) (mkS L hL) = some (p, mkS R hR)) → unaryS sum (n + 1) (mkS (tokX (polX p) ++ R) hA) = some (p, mkS R hR) := fun L e hh => by
    have e2 : tokX (polX p) ++ R = L := by rw [ht, e]
    rw [mkS_eq e2 hA (e2 ▸ hA)]
    exact hh _
  clear ht
  have hF : ∀ q : PolT, q.op = p.op → q.f = p.f → q.n = p.n → q.kids = [] → q = p := fun q h1 h2 h3 h5 => by
    cases p; cases q
    simp only [PolT.op, PolT.f, PolT.n, PolT.kids] at h1 h2 h3 h5 hkids
    rw [h1, h2, h3, h5, hkids]
  by_cases h01 : p.op = 0 ∨ p.op = 1
  · obtain ⟨e1, e2⟩ := c1 h01
    rcases h01 with h0 | h0
    · have hp := hF (.mk 0 0 0 []) h0.symm e1.symm e2.symm rfl
      refine go (tW ⟨#[100, 114, 111, 112]⟩ :: R) (by rw [h0]; rfl) fun hL => ?_
      have hat := atom_drop sum R hR hL
      rw [hp] at hat
      exact (unary_atom _ (fun _ => by decide)).trans hat
    · have hp := hF (.mk 1 0 0 []) h0.symm e1.symm e2.symm rfl
      refine go (tW ⟨#[105, 100]⟩ :: R) (by rw [h0]; rfl) fun hL => ?_
      have hat := atom_id sum R hR hL
      rw [hp] at hat
      exact (unary_atom _ (fun _ => by decide)).trans hat
  · rcases c2 h01 with h2 | h2 | h2
    · have hf8 := f2 (.inl h2)
      have hp := hF (.mk 2 p.f p.n []) h2.symm rfl rfl rfl
      refine go (tW (nameF p.f) :: tM ⟨#[61]⟩ :: tN p.n :: R) (by rw [h2, show headX 2 p.f p.n = fieldX p.f [61] p.n from rfl, tok_field hn.1]; rfl) fun hL => ?_
      have hat := atom_test sum p.f p.n ⟨f0, hf8⟩ R hR hL
      rw [hp] at hat
      exact (unary_atom _ (fun _ => name_bang ⟨f0, hf8⟩)).trans hat
    · have hf8 := f2 (.inr h2)
      have hp := hF (.mk 5 p.f p.n []) h2.symm rfl rfl rfl
      refine go (tW (nameF p.f) :: tM ⟨#[58, 61]⟩ :: tN p.n :: R) (by rw [h2, show headX 5 p.f p.n = fieldX p.f [58, 61] p.n from rfl, tok_field hn.1]; rfl) fun hL => ?_
      have hat := atom_put sum p.f p.n ⟨f0, hf8⟩ R hR hL
      rw [hp] at hat
      exact (unary_atom _ (fun _ => name_bang ⟨f0, hf8⟩)).trans hat
    · have hp := hF (.mk 3 p.f p.n []) h2.symm rfl rfl rfl
      refine go (tM ⟨#[64]⟩ :: tN p.f :: tM ⟨#[61]⟩ :: tN p.n :: R) (by rw [h2, show headX 3 p.f p.n = partX p.f [61] p.n from rfl, tok_part f0 hn.1]; rfl) fun hL => ?_
      have hat := atom_state sum p.f p.n R hR hL
      rw [hw, hp] at hat
      exact (unary_atom _ (fun _ => by decide)).trans hat
structure Reads (k : Int) (p : PolT) : Prop where
  sum : ∀ m, sizeP p ≤ m → ∀ R (hR : EndT R) h, NotSemi R → NotPlus R → sumS m (mkS (tokX (polX p) ++ R) h) = some (p, mkS R hR)
  un : ∀ m n, sizeP p ≤ m → sizeP p ≤ n → ∀ of, (of = 4 ∨ of = 6) → ∀ R (hR : EndT R) h, unaryS (sumS m) n (mkS (kidT of p ++ R) h) = some (p, mkS R hR)
  sq : ∀ m n, sizeP p ≤ m → sizeP p ≤ n → ∀ R (hR : EndT R) h, NotSemi R → seqS (sumS m) n (mkS (kidT 7 p ++ R) h) = some (p, mkS R hR)
theorem joined_many {op : Int} {l : List PolT} (h : 2 ≤ l.length) : joinedS op l = .mk op 0 0 l := by unfold joinedS; rw [if_neg (by omega)]
theorem not4_kid {k : Int} {p : PolT} (h : WfP k p) (h4 : p.op = 4) : ∃ q, p = .mk 4 0 0 [q] := by
  have h1 := h.fm
  rw [formP_at, if_neg (by omega), if_pos h4] at h1
  simp only [Bool.and_eq_true, beq_iff_eq] at h1
  cases p with
  | mk op f n kids =>
    obtain ⟨⟨⟨h2, h3, h5⟩, _⟩, _⟩ := h1
    simp only [PolT.op, PolT.f, PolT.n, PolT.kids] at *
    obtain ⟨q, rfl⟩ := List.length_eq_one_iff.1 h2
    subst h3; subst h5; subst h4
    exact ⟨q, rfl⟩
theorem reads {k : Int} (hk : k ≤ 60000) : ∀ (N : Nat) (p : PolT), sizeP p ≤ N → WfP k p → Reads k p
  | 0, p, h, _ => by have := sizeP_pos p; omega
  | N + 1, p, hN, hw => by
    have ih : ∀ q ∈ p.kids, Reads k q := fun q hq => reads hk N q (by have := sizeP_kid hq; omega) (hw.kid hq)
    have hpos := sizeP_pos p
    -- bare: no sequence, no sum
    have bare : ¬ p.op = 6 → ¬ p.op = 7 → ∀ m n, sizeP p ≤ m + 1 → sizeP p ≤ n → ∀ R (hR : EndT R) h, unaryS (sumS m) n (mkS (tokX (polX p) ++ R) h) = some (p, mkS R hR) := by
      intro h6 h7 m n hm hn R hR h
      obtain ⟨n, rfl⟩ : ∃ n', n = n' + 1 := ⟨n - 1, by omega⟩
      by_cases h4 : p.op = 4
      · obtain ⟨q, hq⟩ := not4_kid hw h4
        have hqm : q ∈ p.kids := by rw [hq]; exact List.mem_singleton.2 rfl
        have hsz := sizeP_kid hqm
        have e : tokX (polX p) = tM ⟨#[33]⟩ :: kidT 4 q := by
          rw [hq, polX, kidsX_cons, kidsX, tokX_app]
          show tokX [.m [33]] ++ tokX ([] ++ (kidX 4 q ++ [])) = _
          rw [List.nil_append, List.append_nil]; rfl
        revert h
        rw [e]
        intro h
        have hA : EndT (kidT 4 q ++ R) := hR.app _
        have := (ih q hqm).un m n (by omega) (by omega) 4 (.inl rfl) R hR hA
        rw [show some (p, mkS R hR) = some (PolT.mk 4 0 0 [q], mkS R hR) from by rw [← hq]]
        exact unary_not h hA hR this
      · exact leaf_atom hk hw h4 h6 h7 _ n R hR h
    -- sequences
    have seq6 : p.op = 6 → ∀ m n, sizeP p ≤ m + 1 → sizeP p ≤ n → ∀ R (hR : EndT R) h, NotSemi R → seqS (sumS m) n (mkS (tokX (polX p) ++ R) h) = some (p, mkS R hR) := by
      intro h6 m n hm hn R hR h hns
      obtain ⟨hp, hl2⟩ := hw.join (.inl h6)
      cases hkk : p.kids with
      | nil => rw [hkk] at hl2; simp at hl2
      | cons q l =>
        have e := tok_pol (.inl h6) hkk
        rw [h6] at e
        revert h
        rw [e, List.append_assoc]
        intro h
        have hl := list_all (sign := semiB) (one := unaryS (sumS m) n) (kt := kidT 6) (sg := tM ⟨(signX 6).toArray⟩) (.inr rfl) rfl (fun _ => True) (fun _ => trivial) hR trivial (hns hR) q l
          (fun y hy R h hR _ => by
            have hym : y ∈ p.kids := by rw [hkk]; exact hy
            have := sizeP_kid hym
            exact (ih y hym).un m n (by omega) (by omega) 6 (.inr rfl) R hR h) h
        unfold seqS
        rw [hl]
        show some (joinedS 6 (q :: l), mkS R hR) = _
        rw [← hkk, joined_many hl2]
        rw [h6] at hp
        rw [← hp]
    -- as a part of a sum
    have part7 : ¬ p.op = 7 → ∀ m n, sizeP p ≤ m + 1 → sizeP p ≤ n → ∀ R (hR : EndT R) h, NotSemi R → seqS (sumS m) n (mkS (tokX (polX p) ++ R) h) = some (p, mkS R hR) := by
      intro h7 m n hm hn R hR h hns
      by_cases h6 : p.op = 6
      · exact seq6 h6 m n hm hn R hR h hns
      · have hb := bare h6 h7 m n hm hn
        have hl := list_all (sign := semiB) (one := unaryS (sumS m) n) (kt := fun x => tokX (polX x)) (sg := tM ⟨#[59]⟩) (.inr rfl) rfl (fun _ => True) (fun _ => trivial) hR trivial (hns hR) p []
          (fun y hy R' h' hR' _ => by
            obtain rfl : y = p := List.mem_singleton.1 hy
            exact hb R' hR' h') h
        unfold seqS
        have hl : listS semiB (unaryS (sumS m) n) (mkS (tokX (polX p) ++ R) h) = some ([p], mkS R hR) := hl
        rw [hl]; rfl
    have sum : ∀ m, sizeP p ≤ m → ∀ R (hR : EndT R) h, NotSemi R → NotPlus R → sumS m (mkS (tokX (polX p) ++ R) h) = some (p, mkS R hR) := by
      intro m hm R hR h hns hnp
      obtain ⟨m, rfl⟩ : ∃ m', m = m' + 1 := ⟨m - 1, by omega⟩
      by_cases h7 : p.op = 7
      · obtain ⟨hp, hl2⟩ := hw.join (.inr h7)
        cases hkk : p.kids with
        | nil => rw [hkk] at hl2; simp at hl2
        | cons q l =>
          have e := tok_pol (.inr h7) hkk
          rw [h7] at e
          revert h
          rw [e, List.append_assoc]
          intro h
          have hl := list_all (sign := plusB) (one := seqS (sumS m) (m + 1)) (kt := kidT 7) (sg := tM ⟨(signX 7).toArray⟩) (.inr rfl) rfl NotSemi (fun R => notSemi_plus R) hR hns (hnp hR) q l
            (fun y hy R h hR hn => by
              have hym : y ∈ p.kids := by rw [hkk]; exact hy
              have := sizeP_kid hym
              exact (ih y hym).sq m (m + 1) (by omega) (by omega) R hR h hn) h
          rw [sumS, hl]
          show some (joinedS 7 (q :: l), mkS R hR) = _
          rw [← hkk, joined_many hl2]
          rw [h7] at hp
          rw [← hp]
      · have hb := part7 h7 m (m + 1) hm hm
        have hl := list_all (sign := plusB) (one := seqS (sumS m) (m + 1)) (kt := fun x => tokX (polX x)) (sg := tM ⟨#[43]⟩) (.inr rfl) rfl NotSemi (fun R => notSemi_plus R) hR hns (hnp hR) p []
          (fun y hy R' h' hR' hn => by
            obtain rfl : y = p := List.mem_singleton.1 hy
            exact hb R' hR' h' hn) h
        have hl : listS plusB (seqS (sumS m) (m + 1)) (mkS (tokX (polX p) ++ R) h) = some ([p], mkS R hR) := hl
        rw [sumS, hl]; rfl
    -- in parentheses
    have par : ∀ m, sizeP p ≤ m → ∀ R (hR : EndT R) (h : EndT (tM ⟨#[40]⟩ :: ((tokX (polX p) ++ [tM ⟨#[41]⟩]) ++ R))), atomS (sumS m) (mkS (tM ⟨#[40]⟩ :: ((tokX (polX p) ++ [tM ⟨#[41]⟩]) ++ R)) h) = some (p, mkS R hR) := by
      intro m hm R hR h
      have hB : EndT (tM ⟨#[41]⟩ :: R) := hR.app [_]
      have e : (tokX (polX p) ++ [tM ⟨#[41]⟩]) ++ R = tokX (polX p) ++ (tM ⟨#[41]⟩ :: R) := by simp
      revert h
      rw [e]
      intro h
      exact atom_par _ _ R (hB.app _) hB hR h p (sum m hm _ hB _ (notSemi_rpar R) (notPlus_rpar R))
    have bang : ∀ A (h : EndT (tM ⟨#[40]⟩ :: A)) m n, unaryS (sumS m) (n + 1) (mkS (tM ⟨#[40]⟩ :: A) h) = atomS (sumS m) (mkS (tM ⟨#[40]⟩ :: A) h) := fun A h m n => unary_atom h fun _ => by decide
    refine ⟨sum, ?_, ?_⟩
    · intro m n hm hn of hof R hR h
      by_cases hb : bareB of p.op = true
      · have hb' : ¬ p.op = 6 ∧ ¬ p.op = 7 := by
          unfold bareB at hb
          simp only [Bool.and_eq_true, Bool.or_eq_true, decide_eq_true_eq] at hb
          omega
        revert h
        rw [kidT_bare hb]
        intro h
        exact bare hb'.1 hb'.2 m n (by omega) hn R hR h
      · obtain ⟨n, rfl⟩ : ∃ n', n = n' + 1 := ⟨n - 1, by omega⟩
        revert h
        rw [kidT_par (Bool.eq_false_iff.2 hb)]
        intro h
        exact (bang _ h m n).trans (par m hm R hR h)
    · intro m n hm hn R hR h hns
      by_cases h7 : p.op = 7
      · obtain ⟨n, rfl⟩ : ∃ n', n = n' + 1 := ⟨n - 1, by omega⟩
        have hbf : bareB 7 p.op = false := by rw [h7]; rfl
        have hu : ∀ R (h : EndT (kidT 7 p ++ R)) (hR : EndT R), unaryS (sumS m) (n + 1) (mkS (kidT 7 p ++ R) h) = some (p, mkS R hR) := by
          intro R h hR
          revert h
          rw [kidT_par hbf]
          intro h
          exact (bang _ h m n).trans (par m hm R hR h)
        have hl := list_all (sign := semiB) (one := unaryS (sumS m) (n + 1)) (kt := kidT 7) (sg := tM ⟨#[59]⟩) (.inr rfl) rfl (fun _ => True) (fun _ => trivial) hR trivial (hns hR) p []
          (fun y hy R' h' hR' _ => by
            obtain rfl : y = p := List.mem_singleton.1 hy
            exact hu R' h' hR') h
        have hl : listS semiB (unaryS (sumS m) (n + 1)) (mkS (kidT 7 p ++ R) h) = some ([p], mkS R hR) := hl
        unfold seqS
        rw [hl]; rfl
      · have hb : bareB 7 p.op = true := by unfold bareB; simp [h7]
        revert h
        rw [kidT_bare hb]
        intro h
        exact part7 h7 m n (by omega) hn R hR h hns
end Go.Ax

namespace Go.Ax
open Go.Proofs
set_option maxRecDepth 10000
def zeroG : List D := [.v (.slice none 0 0), .i64 0, .i64 0, .u16 0, .v (.slice none 0 0), .v (.slice none 0 0)]
theorem quiet_ctr (g : GP) (cs ds : List D) : CtrD (ax g).E 117 [.ptr 9002 0, .ptr 9003 0] [(9002, some (.dvar 6 cs)), (9003, some (.dvar 1 ds))] .returning .returning (fun o => o = .ret (.tup []) [(9002, some (.dvar 6 cs)), (9003, some (.dvar 1 ds))]) := by
  refine CtrD.body (X := ax g) .nilIface (.d (.v .nilIface)) _ _ _ _ 17 [9002, 9003] [] 5 2 Tryz.func117 rfl rfl rfl rfl (by decide +kernel) rfl rfl rfl ⟨_, rfl⟩ rfl rfl rfl rfl rfl rfl rfl (.inl ⟨rfl, rfl, rfl⟩) (fun _ _ _ => RA.intv _ rfl) ?_
  conv => whnf
  repeat' (first | (refine And.intro easyA ?_; conv => whnf) | (refine ifB_intro (fun hA => ?_) (fun hA => ?_) <;> (try rw [hA]) <;> (conv => whnf) <;> (first | replace hA := nrmA hA | replace hA := nrmB hA | replace hA := nrmC hA | replace hA := nrmD hA | replace hA := nrmE hA | replace hA := nrmF hA | skip) <;> (try simp only [List.length_map, cond_true, cond_false, Bool.not_eq_true', Bool.not_eq_false', beq_iff_eq, beq_eq_false_iff_ne, ne_eq] at hA)) | (rw [getD_map _ _ _ _ (by assumption)]; conv => whnf))
  refine ⟨⟨[(9002, some (.dvar 6 cs)), (9003, some (.dvar 1 ds))], ?_⟩⟩
  conv => whnf
  refine And.intro ⟨fun o h => h, fun o h => h, trivial⟩ ?_
  first | rfl | trivial
theorem caught_ctr (g : GP) (cs ds : List D) : CtrD (ax g).E 117 [.ptr 9002 0, .ptr 9003 0] [(9002, some (.dvar 6 cs)), (9003, some (.dvar 1 ds))] (.panicking Failed) (.panicking [{ v := .iface 180 (.agg #[]), recovered := true }]) (fun o => o = .ret (.tup []) [(9002, some (.dvar 6 zeroG)), (9003, some (.dvar 1 [.v (.bool false)]))]) := by
  refine CtrD.body (X := ax g) (.iface 180 (.agg #[])) (.ifc 180 (.dagg [])) _ _ _ _ 17 [9002, 9003] [] 5 2 Tryz.func117 rfl rfl rfl rfl (by decide +kernel) rfl rfl rfl ⟨_, rfl⟩ rfl rfl rfl rfl rfl rfl rfl (.inr rfl) (fun _ _ _ => .ifc _ _ _ (.dagg _ _ rfl (by simp))) ?_
  conv => whnf
  repeat' (first | (refine And.intro easyA ?_; conv => whnf) | (refine ifB_intro (fun hA => ?_) (fun hA => ?_) <;> (try rw [hA]) <;> (conv => whnf) <;> (first | replace hA := nrmA hA | replace hA := nrmB hA | replace hA := nrmC hA | replace hA := nrmD hA | replace hA := nrmE hA | replace hA := nrmF hA | skip) <;> (try simp only [List.length_map, cond_true, cond_false, Bool.not_eq_true', Bool.not_eq_false', beq_iff_eq, beq_eq_false_iff_ne, ne_eq] at hA)) | (rw [getD_map _ _ _ _ (by assumption)]; conv => whnf))
  refine ⟨⟨[(9002, some (.dvar 6 zeroG)), (9003, some (.dvar 1 [.v (.bool false)]))], ?_⟩⟩
  conv => whnf
  refine And.intro ⟨fun o h => h, fun o h => h, trivial⟩ ?_
  first | rfl | trivial
abbrev resH (cs ds : List D) : HL := [(2, some (.dvar 6 cs)), (3, some (.dvar 1 ds))]
abbrev Caught : FrameMode := .panicking [{ v := .iface 180 (.agg #[]), recovered := true }]
theorem caught2 (g : GP) (cs ds : List D) : CtrD (ax g).E 117 [.ptr 2 0, .ptr 3 0] (resH cs ds) (.panicking Failed) Caught (fun o => o = .ret (.tup []) (resH zeroG [.v (.bool false)])) :=
  ((caught_ctr g cs ds).swapG 9002 2 (post' := fun o => o = .ret (.tup []) [(2, some (.dvar 6 zeroG)), (9003, some (.dvar 1 [.v (.bool false)]))]) (fun res ho h => by injection h with h1 h2; subst h1; subst h2; rfl) (fun ch ho h => by simp at h)).swapG 9003 3
    (fun res ho h => by injection h with h1 h2; subst h1; subst h2; rfl) (fun ch ho h => by simp at h)
theorem quiet2 (g : GP) (cs ds : List D) : CtrD (ax g).E 117 [.ptr 2 0, .ptr 3 0] (resH cs ds) .returning .returning (fun o => o = .ret (.tup []) (resH cs ds)) :=
  ((quiet_ctr g cs ds).swapG 9002 2 (post' := fun o => o = .ret (.tup []) [(2, some (.dvar 6 cs)), (9003, some (.dvar 1 ds))]) (fun res ho h => by injection h with h1 h2; subst h1; subst h2; rfl) (fun ch ho h => by simp at h)).swapG 9003 3
    (fun res ho h => by injection h with h1 h2; subst h1; subst h2; rfl) (fun ch ho h => by simp at h)
def readO : Option (ProgT × SP) → AOut
  | none => .ret (.tup [.dagg zeroG, .bool false]) []
  | some x => .ret (.tup [.dagg (rowG x.1), .bool true]) (spH x.2)
theorem read_ctr (g : GP) (N : Nat) (hN0 : N ≤ 100000) (p : SP) (hp : p.l.length ≤ N) : Ctr (ax g).E 57 [.ptr 9000 0] (spH p) (fun o => o = readO (progS p)) := by
  have hpr := program_ctr g N hN0 p hp
  refine Ctr.recov (X := ax g) [_] _ _ _ _ 7 [9000, 9001] [.cell 2 34, .cell 3 4] 117 2 3 4 Tryz.func57 rfl rfl rfl rfl (by decide +kernel) rfl rfl rfl rfl ⟨_, rfl⟩ rfl rfl rfl rfl ?_
  conv => whnf
  repeat' (first | (refine And.intro easyA ?_; conv => whnf) | (refine ifB_intro (fun hA => ?_) (fun hA => ?_) <;> (try rw [hA]) <;> (conv => whnf) <;> (first | replace hA := nrmA hA | replace hA := nrmB hA | replace hA := nrmC hA | replace hA := nrmD hA | replace hA := nrmE hA | replace hA := nrmF hA | skip) <;> (try simp only [List.length_map, cond_true, cond_false, Bool.not_eq_true', Bool.not_eq_false', beq_iff_eq, beq_eq_false_iff_ne, ne_eq] at hA)) | (refine CallP.may (hpr) (by (conv => whnf); repeat' first | exact trivial | refine And.intro (fun _ h => h) ?_) (fun _ => rfl) (fun hN => ?_) (fun xS hS => ?_) <;> (conv => whnf) <;> (try refine ⟨⟨[], trivial, rfl, ?_⟩⟩)) | (rw [getD_map _ _ _ _ (by assumption)]; conv => whnf))
  · refine ⟨⟨resH zeroG [.v (.bool false)], resH zeroG [.v (.bool false)], Caught, caught2 g _ _, rfl, ?_, fun r o h => lkH_in rfl h, ?_⟩⟩
    · refine fun r o h => LeH.at (f' := resH _ _) ?_ r o h
      exact ⟨fun o h => h, fun o h => h, trivial⟩
    rw [hN]
    refine ⟨⟨[], ?_⟩⟩
    conv => whnf
    repeat' (first | (refine And.intro easyA ?_; conv => whnf) | (refine ifB_intro (fun hA => ?_) (fun hA => ?_) <;> (try rw [hA]) <;> (conv => whnf) <;> (first | replace hA := nrmA hA | replace hA := nrmB hA | replace hA := nrmC hA | replace hA := nrmD hA | replace hA := nrmE hA | replace hA := nrmF hA | skip) <;> (try simp only [List.length_map, cond_true, cond_false, Bool.not_eq_true', Bool.not_eq_false', beq_iff_eq, beq_eq_false_iff_ne, ne_eq] at hA)) | (rw [getD_map _ _ _ _ (by assumption)]; conv => whnf))
    rfl
  · refine ⟨⟨resH (rowG xS.1) [.v (.bool true)], resH (rowG xS.1) [.v (.bool true)], .returning, quiet2 g _ _, rfl, ?_, fun r o h => lkH_in rfl h, ?_⟩⟩
    · refine fun r o h => LeH.at (f' := resH _ _) ?_ r o h
      exact ⟨fun o h => h, fun o h => h, trivial⟩
    rw [hS]
    refine ⟨⟨spH xS.2, ?_⟩⟩
    conv => whnf
    repeat' (first | (refine And.intro easyA ?_; conv => whnf) | (refine ifB_intro (fun hA => ?_) (fun hA => ?_) <;> (try rw [hA]) <;> (conv => whnf) <;> (first | replace hA := nrmA hA | replace hA := nrmB hA | replace hA := nrmC hA | replace hA := nrmD hA | replace hA := nrmE hA | replace hA := nrmF hA | skip) <;> (try simp only [List.length_map, cond_true, cond_false, Bool.not_eq_true', Bool.not_eq_false', beq_iff_eq, beq_eq_false_iff_ne, ne_eq] at hA)) | (refine And.intro ⟨fun o h => h, fun o h => h, trivial⟩ ?_; conv => whnf) | (rw [getD_map _ _ _ _ (by assumption)]; conv => whnf))
    rfl
end Go.Ax

namespace Go.Ax
open Go.Proofs Go.Lib
set_option maxRecDepth 10000
theorem tokV_ctr (g : GP) (hg : ∀ w, g.G w → LibG w) (s : ByteArray) (hs : s.size < 2 ^ 62) : Ctr (ax g).E 56 [.str s] [] (fun o => o = .ret (tokAV (tokensF vS s)) []) :=
  tokens_ctr g hg vS (fun s h => valid_ctr g hg s (by omega)) s hs
theorem wt_len (l : List TokT) : l.length ≤ wt l := by
  induction l with
  | nil => simp
  | cons t l ih => rw [show t :: l = [t] ++ l from rfl, wt_app, wt_one, List.length_append]; simp; omega
theorem tok_some {s : ByteArray} {m : List TokT} {e : Int} (h : tokensF vS s = (some m, e)) : e = 0 ∧ s.size ≤ 4000 ∧ ∃ l, m = l ++ [noTok] ∧ (∀ t ∈ l, TokOk t) ∧ wt l ≤ 6 * s.size ∧ l.length ≤ 6 * s.size := by
  have hs : s.size ≤ 4000 := by
    rcases Nat.lt_or_ge 4000 s.size with h1 | h1
    · rw [tokensF, if_pos h1] at h; exact absurd h (by simp)
    · exact h1
  rw [tokensF_T s hs] at h
  cases hv : vS s with
  | false => rw [hv, if_pos rfl] at h; exact absurd h (by simp)
  | true =>
    rw [hv, if_neg (by simp)] at h
    obtain ⟨l, h1, h2, h3⟩ := tokT_ok _ (chunks s.data.toList) [] (Nat.le_refl _) (good_chunks _) (by rw [← valid_chunks]; exact hv) (fun t ht => by simp at ht) m e h
    have he : e = 0 := by
      rcases tokT_ends _ (chunks s.data.toList) [] (Nat.le_refl _) with ⟨k, g⟩ | ⟨f, g, _⟩
      · rw [g] at h; injection h with _ h; exact h.symm
      · rw [g] at h; exact absurd h (by simp)
    rw [flat_chunks, len_data] at h3
    have h4 : wt l ≤ 6 * s.size := by simpa [wt] using h3
    exact ⟨he, hs, l, h1, h2, h4, by have := wt_len l; omega⟩
end Go.Ax

namespace Go.Ax
open Go.Proofs Go.Lib
set_option maxRecDepth 10000
def sp0 (l : List TokT) : SP := ⟨l ++ [noTok], ⟨_, rfl⟩, [], false, false⟩
def sp21H (p : SP) : HL := [(21, some (.var [.d (.sl false 3 (p.l.map rowK)), .mp 19, .bool p.unk, .bool p.twi])), (19, some (.map false (p.ns.map entN)))]
def spM (p : SP) : HL := [(21, some (objSP p)), (9001, some (.map false (p.ns.map entN)))]
def readAt (h : SP → HL) : Option (ProgT × SP) → AOut
  | none => .ret (.tup [.dagg zeroG, .bool false]) []
  | some x => .ret (.tup [.dagg (rowG x.1), .bool true]) (h x.2)
theorem readM (g : GP) (N : Nat) (hN0 : N ≤ 100000) (p : SP) (hp : p.l.length ≤ N) : Ctr (ax g).E 57 [.ptr 21 0] (spM p) (fun o => o = readAt spM (progS p)) :=
  (read_ctr g N hN0 p hp).swapG 21 9000
    (fun res ho h => by
      cases hs : progS p with
      | none => rw [hs] at h; injection h with h1 h2; subst h1; subst h2; rfl
      | some x => rw [hs] at h; injection h with h1 h2; subst h1; subst h2; rfl)
    (fun ch ho h => by cases hs : progS p with
      | none => rw [hs] at h; exact absurd h (by simp [readO])
      | some x => rw [hs] at h; exact absurd h (by simp [readO]))
theorem read21 (g : GP) (N : Nat) (hN0 : N ≤ 100000) (p : SP) (hp : p.l.length ≤ N) : Ctr (ax g).E 57 [.ptr 21 0] (sp21H p) (fun o => o = readAt sp21H (progS p)) :=
  (readM g N hN0 p hp).swapG 19 9001
    (fun res ho h => by
      cases hs : progS p with
      | none => rw [hs] at h; injection h with h1 h2; subst h1; subst h2; rfl
      | some x => rw [hs] at h; injection h with h1 h2; subst h1; subst h2; rfl)
    (fun ch ho h => by cases hs : progS p with
      | none => rw [hs] at h; exact absurd h (by simp [readAt])
      | some x => rw [hs] at h; exact absurd h (by simp [readAt]))
def resS : Option (ProgT × SP) → Option ProgT × Int
  | none => (none, 10)
  | some (x, q) => if q.unk = true then (none, 12) else if q.twi = true then (none, 11) else if checkP x = 0 then (some x, 0) else (none, checkP x)
def resAV : Option ProgT × Int → AV
  | (none, e) => .tup [.dagg zeroG, .i64 e]
  | (some x, e) => .tup [.dagg (rowG x), .i64 e]
def parseS (s : ByteArray) : Option ProgT × Int := match tokensF vS s with
  | (none, e) => (none, e)
  | (some m, _) => resS (progS (sp0 m.dropLast))
structure FitP (s : ByteArray) : Prop where
  small : ∀ l e, tokensF vS s = (some (l ++ [noTok]), e) → ∀ x q, progS (sp0 l) = some (x, q) → SmallG x
theorem tok_none5 {s : ByteArray} {e : Int} (hs : s.size ≤ 4000) (h : tokensF vS s = (none, e)) : e ≠ 0 := by
  rw [tokensF_T s hs] at h
  split at h
  · injection h with _ h; omega
  · rcases tokT_ends _ (chunks s.data.toList) [] (Nat.le_refl _) with ⟨k, g⟩ | ⟨f, g, hf⟩
    · rw [g] at h; exact absurd h (by simp)
    · rw [g] at h; injection h with _ h; omega
theorem tok_err {s : ByteArray} {e : Int} (h : tokensF vS s = (none, e)) : e ≠ 0 := by
  by_cases hs : s.size ≤ 4000
  · exact tok_none5 hs h
  · rw [tokensF, if_pos (by omega)] at h
    injection h with _ h; omega
theorem parse5_ctr (g : GP) (hg : ∀ w, g.G w → LibG w) (s : ByteArray) (hs : s.size < 2 ^ 62) (hf : FitP s) : Ctr (ax g).E 15 [.str s] [] (fun o => o = .ret (resAV (parseS s)) []) := by
  have ht := tokV_ctr g hg s hs
  refine Ctr.body (X := ax g) _ 47 [] [.cell 2 34, .tmp 3] Tryz.func15 rfl rfl rfl rfl (by decide +kernel) rfl rfl ?_
  conv => whnf
  cases hT : tokensF vS s with
  | mk l e =>
    rw [hT] at ht
    cases l with
    | none =>
      have he := tok_err hT
      have hP : parseS s = (none, e) := by rw [parseS, hT]
      rw [hP]
      repeat' (first | (refine And.intro easyA ?_; conv => whnf) | (refine ifB_intro (fun hA => ?_) (fun hA => ?_) <;> (try rw [hA]) <;> (conv => whnf) <;> (first | replace hA := nrmA hA | replace hA := nrmB hA | replace hA := nrmC hA | replace hA := nrmD hA | replace hA := nrmE hA | replace hA := nrmF hA | skip) <;> (try simp only [ne_eq] at hA)) | (refine CallP.det (ht) ?_; conv => whnf) | (refine CallD.det (ht) ?_; conv => whnf) | (rw [getD_map _ _ _ _ (by assumption)]; conv => whnf))
      all_goals first | exact absurd hA he | (refine ⟨⟨[], ?_⟩⟩; conv => whnf
                                              repeat' (first | (refine And.intro easyA ?_; conv => whnf) | (refine ifB_intro (fun hA => ?_) (fun hA => ?_) <;> (try rw [hA]) <;> (conv => whnf) <;> (first | replace hA := nrmA hA | replace hA := nrmB hA | replace hA := nrmC hA | replace hA := nrmD hA | replace hA := nrmE hA | replace hA := nrmF hA | skip) <;> (try simp only [List.length_map, cond_true, cond_false, Bool.not_eq_true', Bool.not_eq_false', beq_iff_eq, beq_eq_false_iff_ne, ne_eq] at hA)) | (rw [getD_map _ _ _ _ (by assumption)]; conv => whnf))
                                              rfl)
    | some m =>
      obtain ⟨he, hs4, l, rfl, hl⟩ := tok_some hT
      have hP : parseS s = resS (progS (sp0 l)) := by rw [parseS, hT]; simp
      have hsm := hf.small _ _ hT
      have hr := read21 g 24001 (by decide) (sp0 l) (by simp [sp0]; omega)
      rw [hP]
      cases hS : progS (sp0 l) with
      | none =>
        rw [hS] at hr
        repeat' (first | (refine And.intro easyA ?_; conv => whnf) | (refine ifB_intro (fun hA => ?_) (fun hA => ?_) <;> (try rw [hA]) <;> (conv => whnf) <;> (first | replace hA := nrmA hA | replace hA := nrmB hA | replace hA := nrmC hA | replace hA := nrmD hA | replace hA := nrmE hA | replace hA := nrmF hA | skip) <;> (try simp only [ne_eq] at hA)) | (refine CallP.det (ht) ?_; conv => whnf) | (refine CallD.det (ht) ?_; conv => whnf) | (refine CallP.hlb (hr) (by (conv => whnf); repeat' first | exact trivial | refine And.intro (fun _ h => h) ?_) rfl ?_; conv => whnf) | (refine CallD.hlb (hr) (by (conv => whnf); repeat' first | exact trivial | refine And.intro (fun _ h => h) ?_) ?_; conv => whnf) | (rw [getD_map _ _ _ _ (by assumption)]; conv => whnf))
        all_goals first | exact absurd he hA | (refine ⟨⟨[], ?_⟩⟩; conv => whnf
                                                repeat' (first | (refine And.intro easyA ?_; conv => whnf) | (refine ifB_intro (fun hA => ?_) (fun hA => ?_) <;> (try rw [hA]) <;> (conv => whnf) <;> (first | replace hA := nrmA hA | replace hA := nrmB hA | replace hA := nrmC hA | replace hA := nrmD hA | replace hA := nrmE hA | replace hA := nrmF hA | skip) <;> (try simp only [List.length_map, cond_true, cond_false, Bool.not_eq_true', Bool.not_eq_false', beq_iff_eq, beq_eq_false_iff_ne, ne_eq] at hA)) | (rw [getD_map _ _ _ _ (by assumption)]; conv => whnf))
                                                rfl)
      | some xq =>
        obtain ⟨x, q⟩ := xq
        rw [hS] at hr
        have hc := check5_ctr g x (hsm x q hS)
        have r1 : q.unk = true → resS (some (x, q)) = (none, 12) := fun h => by simp [resS, h]
        have r2 : q.unk = false → q.twi = true → resS (some (x, q)) = (none, 11) := fun h h' => by simp [resS, h, h']
        have r3 : q.unk = false → q.twi = false → ¬checkP x = 0 → resS (some (x, q)) = (none, checkP x) := fun h h' h2 => by simp [resS, h, h', h2]
        have r4 : q.unk = false → q.twi = false → checkP x = 0 → resS (some (x, q)) = (some x, 0) := fun h h' h2 => by simp [resS, h, h', h2]
        repeat' (first | (refine And.intro easyA ?_; conv => whnf) | (refine ifB_intro (fun hA => ?_) (fun hA => ?_) <;> (try rw [hA]) <;> (conv => whnf) <;> (first | replace hA := nrmA hA | replace hA := nrmB hA | replace hA := nrmC hA | replace hA := nrmD hA | replace hA := nrmE hA | replace hA := nrmF hA | skip) <;> (try simp only [ne_eq] at hA)) | (refine CallP.det (ht) ?_; conv => whnf) | (refine CallD.det (ht) ?_; conv => whnf) | (refine CallP.hlb (hr) (by (conv => whnf); repeat' first | exact trivial | refine And.intro (fun _ h => h) ?_) rfl ?_; conv => whnf) | (refine CallD.hlb (hr) (by (conv => whnf); repeat' first | exact trivial | refine And.intro (fun _ h => h) ?_) ?_; conv => whnf) | (refine CallP.det (hc) ?_; conv => whnf) | (refine CallD.det (hc) ?_; conv => whnf) | (rw [getD_map _ _ _ _ (by assumption)]; conv => whnf))
        all_goals first
          | exact absurd he ‹_›
          | (rw [r1 ‹_›]
             refine ⟨⟨[], ?_⟩⟩; conv => whnf
             repeat' (first | (refine And.intro easyA ?_; conv => whnf) | (refine ifB_intro (fun hA => ?_) (fun hA => ?_) <;> (try rw [hA]) <;> (conv => whnf) <;> (first | replace hA := nrmA hA | replace hA := nrmB hA | replace hA := nrmC hA | replace hA := nrmD hA | replace hA := nrmE hA | replace hA := nrmF hA | skip) <;> (try simp only [List.length_map, cond_true, cond_false, Bool.not_eq_true', Bool.not_eq_false', beq_iff_eq, beq_eq_false_iff_ne, ne_eq] at hA)) | (rw [getD_map _ _ _ _ (by assumption)]; conv => whnf))
             rfl)
          | (rw [r2 ‹_› ‹_›]
             refine ⟨⟨[], ?_⟩⟩; conv => whnf
             repeat' (first | (refine And.intro easyA ?_; conv => whnf) | (refine ifB_intro (fun hA => ?_) (fun hA => ?_) <;> (try rw [hA]) <;> (conv => whnf) <;> (first | replace hA := nrmA hA | replace hA := nrmB hA | replace hA := nrmC hA | replace hA := nrmD hA | replace hA := nrmE hA | replace hA := nrmF hA | skip) <;> (try simp only [List.length_map, cond_true, cond_false, Bool.not_eq_true', Bool.not_eq_false', beq_iff_eq, beq_eq_false_iff_ne, ne_eq] at hA)) | (rw [getD_map _ _ _ _ (by assumption)]; conv => whnf))
             rfl)
          | (rw [r3 ‹_› ‹_› ‹_›]
             refine ⟨⟨[], ?_⟩⟩; conv => whnf
             repeat' (first | (refine And.intro easyA ?_; conv => whnf) | (refine ifB_intro (fun hA => ?_) (fun hA => ?_) <;> (try rw [hA]) <;> (conv => whnf) <;> (first | replace hA := nrmA hA | replace hA := nrmB hA | replace hA := nrmC hA | replace hA := nrmD hA | replace hA := nrmE hA | replace hA := nrmF hA | skip) <;> (try simp only [List.length_map, cond_true, cond_false, Bool.not_eq_true', Bool.not_eq_false', beq_iff_eq, beq_eq_false_iff_ne, ne_eq] at hA)) | (rw [getD_map _ _ _ _ (by assumption)]; conv => whnf))
             rfl)
          | (rw [r4 ‹_› ‹_› ‹_›]
             refine ⟨⟨[], ?_⟩⟩; conv => whnf
             repeat' (first | (refine And.intro easyA ?_; conv => whnf) | (refine ifB_intro (fun hA => ?_) (fun hA => ?_) <;> (try rw [hA]) <;> (conv => whnf) <;> (first | replace hA := nrmA hA | replace hA := nrmB hA | replace hA := nrmC hA | replace hA := nrmD hA | replace hA := nrmE hA | replace hA := nrmF hA | skip) <;> (try simp only [List.length_map, cond_true, cond_false, Bool.not_eq_true', Bool.not_eq_false', beq_iff_eq, beq_eq_false_iff_ne, ne_eq] at hA)) | (rw [getD_map _ _ _ _ (by assumption)]; conv => whnf))
             rfl)
end Go.Ax

namespace Go.Ax
open Go.Proofs
set_option maxRecDepth 10000
theorem insIn_rise {l : List PairT} (hr : Rise l) (a : Nat) : ∀ j, j < l.length → insIn a j l = l
  | 0, _ => rfl
  | j + 1, h => by
    rw [insIn, if_neg]
    rintro ⟨_, h2⟩
    have := hr j h
    have h3 := of_decide_eq_true h2
    have h4 : (l.getD (j + 1) (0, 0)).1 < (l.getD j (0, 0)).1 := h3
    omega
theorem insN_rise {l : List PairT} (hr : Rise l) (a : Nat) : ∀ k, a + k < l.length ∨ k = 0 → insN l a k = l
  | 0, _ => rfl
  | k + 1, h => by
    rw [insN, insN_rise hr a k (by omega)]
    exact insIn_rise hr a _ (by omega)
theorem sortP_rise {l : List PairT} (h : l.length < 20) (hr : Rise l) : sortP l = l := by
  have hb : blkF l.length l 0 = (l, 0) := by
    cases hn : l.length with
    | zero => rfl
    | succ n => rw [blkF, if_neg (by omega)]
  have hi : insF l 0 l.length = l := by
    unfold insF
    exact insN_rise hr 0 _ (by omega)
  unfold sortP
  rw [hb]
  dsimp only
  rw [hi]
  cases hn : l.length with
  | zero => rfl
  | succ n => rw [rndsF, if_neg (by omega)]
end Go.Ax
