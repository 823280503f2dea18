/- What the card of this claim stands on, or the card itself: for every input, as the given row says. -/
import Derived.Lib.Builder
import Derived.ProofKit
import Derived.WalkKit
import Derived.Test.YtjcgfiidbpailaaDoorSA06
import Derived.Test.YtjcgfiidbpailaaDoorSA07
import Derived.Test.YtjcgfiidbpailaaDoorSA08
import Derived.Test.YtjcgfiidbpailaaDoorSA09
import Derived.Test.YtjcgfiidbpailaaDoorSA10
import Derived.Test.YtjcgfiidbpailaaDoorSA13
namespace Go.Ax
open Go.Proofs
set_option maxRecDepth 10000
def initC : ByteArray := ⟨#[105, 110, 105, 116]⟩
def letC : ByteArray := ⟨#[108, 101, 116]⟩
def policyC : ByteArray := ⟨#[112, 111, 108, 105, 99, 121]⟩
def onC : ByteArray := ⟨#[111, 110]⟩
def numsGo : Nat → List Int → SP → Option (List Int × SP)
  | 0, _, _ => none
  | n + 1, acc, p => if (takeS dotC p).1 = true then some (acc, (takeS dotC p).2) else (numS (takeS dotC p).2).bind fun x => numsGo n (acc ++ [x.1]) x.2
def noted (c : SP) (w : ByteArray) (n : Int) : SP := { c with unk := c.unk || nsHas c.ns w, ns := nsPut c.ns w n }
def letsGo : Nat → SP → Option SP
  | 0, _ => none
  | n + 1, p => if (takeS letC p).1 = true then (nameS (takeS letC p).2).bind fun w => (mustS eqB w.2).bind fun a => (numS a).bind fun x => (mustS dotC x.2).bind fun c => letsGo n (noted c w.1 x.1)
    else some (takeS letC p).2
def rulesGo : Nat → List RuleT → SP → Option (List RuleT × SP)
  | 0, _, _ => none
  | n + 1, acc, p => if (takeS onC p).1 = true then (ruleS (takeS onC p).2).bind fun x => rulesGo n (acc ++ [x.1]) x.2 else some (acc, (takeS onC p).2)
def headS (p : SP) : Option (List Int × SP) := (mustS initC p).bind fun a => (numS a).bind fun x => (numsGo x.2.l.length [x.1] x.2).bind fun i => (letsGo i.2.l.length i.2).bind fun b => some (i.1, b)
def bodyS (i : List Int) (b : SP) : Option (ProgT × SP) := (mustS policyC b).bind fun c => (sumS c.l.length c).bind fun s => (mustS dotC s.2).bind fun d => (rulesGo d.l.length [] d).bind fun rs => if (hdT rs.2).kind = 0 then some (⟨i, s.1, rs.1⟩, rs.2) else none
def progS (p : SP) : Option (ProgT × SP) := (headS p).bind fun x => bodyS x.1 x.2
theorem DrawP.asVar {E : Env} {k : Kn} {id : Nat} {ops : Array Oper} {Q : APost} {s : St} (q n : Nat) (cs : List D) (hq : lkH q s.h = some (.dvar n cs)) (h : DrawP E k id ops Q { f := s.f, h := (q, some (.var (cs.map .d))) :: s.h }) : DrawP E k id ops Q s := ⟨AWp.asVar q n cs hq h.ok⟩
theorem Ctr.rowA {E : Env} {f : FuncId} {args : List AV} {hin : HL} {α : Type} {ch : List PanicEntry} {row : α → List D} {hx : α → HL} {sp : Option α} (h : Ctr E f args hin fun o => o = outP ch (fun x => .agg ((row x).map .d)) hx sp) : Ctr E f args hin fun o => o = outP ch (fun x => .dagg (row x)) hx sp :=
  Ctr.loose (rx := fun x => .agg ((row x).map .d)) (h.mono fun _ h => .inl h) (fun _ _ => rfl) fun _ _ _ _ _ H => H.dagg_of
theorem condsGo_len : ∀ {n : Nat} {w g : List PairT} {p q : SP} {x : List PairT × List PairT}, condsGo n w g p = some (x, q) → q.l.length ≤ p.l.length
  | 0, _, _, _, _, _, h => by simp [condsGo] at h
  | n + 1, w, g, p, q, x, h => by
    rw [condsGo] at h
    split at h
    · simp at h
    · rename_i b y r hr
      have h1 := condS_len hr
      have h2 := takeS_len (s := ampB) (p := r)
      split at h
      · have := condsGo_len h; omega
      · injection h with h; injection h with _ h; subst h; omega
theorem ruleS_len {p : SP} {r : RuleT} {q : SP} (h : ruleS p = some (r, q)) : q.l.length < p.l.length := by
  simp only [ruleS, Option.bind_eq_some_iff] at h
  obtain ⟨x, h1, p2, h2, y, h3, p4, h4, h5⟩ := h
  injection h5 with h5; injection h5 with _ h5; subst h5
  have a1 := condsGo_len (x := x.1) (q := x.2) h1
  have a2 := mustS_len h2
  have a3 := listS_len (fun _ _ _ h => partS_len h) _ _ _ h3
  have a4 := mustS_len h4
  show p4.l.length < p.l.length
  omega
def outH (i : List Int) (rs : List RuleT) (op f n : Int) (kids : D) (p : SP) : HL := (2, some (.var [.d (.v (.slice none 0 0)), .i64 0, .i64 0, .d (.u16 0), .d (.v (.slice none 0 0)), .d (.v (.slice none 0 0))])) :: (3, some (.var [.msl 15 i.length 0 i.length, .i64 op, .i64 f, .d (.u16 n), .d kids, .msl 9005 rs.length 0 rs.length])) :: (15, some (.buf 1 22 (i.map rowS))) :: (9005, some (.buf 3 93 (rs.map rowR))) :: spH p
theorem program_ctr (g : GP) (N : Nat) (hN0 : N ≤ 100000) (p : SP) (hp : p.l.length ≤ N) : Ctr (ax g).E 58 [.ptr 9000 0] (spH p) (fun o => o = outP Failed (fun x : ProgT × SP => .dagg (rowG x.1)) (fun x => spH x.2) (progS p)) := by
  refine Ctr.rowA ?_
  refine Ctr.body (X := ax g) _ 89 [9000, 9001] [.cell 2 52] Tryd.func58 rfl rfl rfl rfl (by decide +kernel) rfl rfl ?_
  conv => whnf
  repeat' (first | (refine And.intro (by first | exact rfl | decide | exact Nat.le_of_ble_eq_true rfl | exact ⟨_, rfl⟩ | exact ⟨_, _, rfl⟩ | omega | (simp only [List.length_map]; omega) | exact True.intro | (simp only [IntKind.wrap_i64, List.length_map]; omega) | (simp only [List.map_cons, List.map_nil, List.length_cons, Option.getD]; omega) | (simp only [bsz, ByteArray.size_append, List.size_toArray, List.length_cons, List.length_nil]; omega)) ?_; conv => whnf) | (refine ifB_intro (fun hA => ?_) (fun hA => ?_) <;> (try rw [hA]) <;> (conv => whnf) <;> (first | replace hA := of_decide_eq_true hA | replace hA := of_decide_eq_false hA | replace hA := eq_of_beq hA | replace hA := ne_of_beq_false hA | replace hA := bne_iff_ne.1 hA | replace hA := bne_eq_false_iff_eq.1 hA | skip) <;> (try simp only [List.length_map, cond_true, cond_false, Bool.not_eq_true', Bool.not_eq_false', beq_iff_eq, beq_eq_false_iff_ne, ne_eq] at hA)) | (refine CallP.may (must5_ctr g p initC (by decide)) (by (conv => whnf); repeat' first | exact trivial | refine And.intro (fun _ h => h) ?_) (fun _ => rfl) (fun hN => ?_) (fun xS hS => ?_) <;> (conv => whnf) <;> (try refine ⟨⟨[], trivial, rfl, ?_⟩⟩)))
  · rw [progS, headS, hN]; rfl
  · have hd : (numS xS = none → progS p = none) := fun h => by rw [progS, headS, hS]; simp only [Option.bind_some, h]; rfl
    refine DrawP.asVar 3 6 _ rfl ?_
    cases hP : numS xS with
    | none =>
      have hc := (num5_ctr g xS).none hP
      refine DrawP.any (X := ax g) (by decide +kernel) ?_
      conv => whnf
      repeat' (first | (refine And.intro (by first | exact rfl | decide | exact Nat.le_of_ble_eq_true rfl | exact ⟨_, rfl⟩ | exact ⟨_, _, rfl⟩ | omega | (simp only [List.length_map]; omega) | exact True.intro | (simp only [IntKind.wrap_i64, List.length_map]; omega) | (simp only [List.map_cons, List.map_nil, List.length_cons, Option.getD]; omega) | (simp only [bsz, ByteArray.size_append, List.size_toArray, List.length_cons, List.length_nil]; omega)) ?_; conv => whnf) | (refine ifB_intro (fun hA => ?_) (fun hA => ?_) <;> (try rw [hA]) <;> (conv => whnf) <;> (first | replace hA := of_decide_eq_true hA | replace hA := of_decide_eq_false hA | replace hA := eq_of_beq hA | replace hA := ne_of_beq_false hA | replace hA := bne_iff_ne.1 hA | replace hA := bne_eq_false_iff_eq.1 hA | skip) <;> (try simp only [List.length_map, cond_true, cond_false, Bool.not_eq_true', Bool.not_eq_false', beq_iff_eq, beq_eq_false_iff_ne, ne_eq] at hA)) | (refine CallP.dies (hc) (by (conv => whnf); repeat' first | exact trivial | refine And.intro (fun _ h => h) ?_) ?_; (conv => whnf); refine ⟨⟨[], trivial, rfl, ?_⟩⟩) | (refine BothP.mk ?_ ?_ <;> conv => whnf))
      all_goals (rw [hd hP]; rfl)
    | some y =>
      obtain ⟨x, q⟩ := y
      have hc := (num5_ctr g xS).some hP
      refine DrawP.intro (X := ax g) (id := 3) B58_3 (by kernel_rfl) (by decide +kernel) ?_
      conv => whnf
      repeat' (first | (refine And.intro (by first | exact rfl | decide | exact Nat.le_of_ble_eq_true rfl | exact ⟨_, rfl⟩ | exact ⟨_, _, rfl⟩ | omega | (simp only [List.length_map]; omega) | exact True.intro | (simp only [IntKind.wrap_i64, List.length_map]; omega) | (simp only [List.map_cons, List.map_nil, List.length_cons, Option.getD]; omega) | (simp only [bsz, ByteArray.size_append, List.size_toArray, List.length_cons, List.length_nil]; omega)) ?_; conv => whnf) | (refine ifB_intro (fun hA => ?_) (fun hA => ?_) <;> (try rw [hA]) <;> (conv => whnf) <;> (first | replace hA := of_decide_eq_true hA | replace hA := of_decide_eq_false hA | replace hA := eq_of_beq hA | replace hA := ne_of_beq_false hA | replace hA := bne_iff_ne.1 hA | replace hA := bne_eq_false_iff_eq.1 hA | skip) <;> (try simp only [List.length_map, cond_true, cond_false, Bool.not_eq_true', Bool.not_eq_false', beq_iff_eq, beq_eq_false_iff_ne, ne_eq] at hA)) | (refine CallP.hlb (hc) (by (conv => whnf); repeat' first | exact trivial | refine And.intro (fun _ h => h) ?_) rfl ?_; conv => whnf) | (refine CallD.hlb (hc) (by (conv => whnf); repeat' first | exact trivial | refine And.intro (fun _ h => h) ?_) ?_; conv => whnf))
      have hhead : headS p = (numsGo q.l.length [x] q).bind fun i => (letsGo i.2.l.length i.2).bind fun b => some (i.1, b) := by
        rw [headS, hS]; simp only [Option.bind_some, hP]
      have hl1 := mustS_len hS
      have hl2 := numS_len hP
      refine LoopP.asVar 2 6 _ rfl ?_
      refine LoopP.ownCell 3 5 9005 3 93 _ rfl rfl rfl ?_
      generalize hR : numsGo q.l.length [x] q = R at hhead
      refine LoopP.inv (X := ax g) (fun y : List Int × SP => { f := [(0, .ptr 9000 0), (2, .ptr 2 0), (3, .ptr 3 0)], h := outH y.1 [] 0 0 0 (.v (.slice none 0 0)) y.2 }) (fun y => y.1.length + y.2.l.length ≤ N ∧ ∃ n, y.2.l.length ≤ n ∧ numsGo n y.1 y.2 = R) (fun y => y.2.l.length) ([x], q) ⟨by show 1 + q.l.length ≤ N; omega, q.l.length, Nat.le_refl _, hR⟩ ⟨⟨rfl, rfl, rfl, trivial⟩, ⟨fun o h => h, fun o h => h, fun o h => h, fun o h => h, fun o h => h, fun o h => h, trivial⟩⟩ fun y hy => ?_
      obtain ⟨acc, q2⟩ := y
      obtain ⟨hn0, n, hn, hR2⟩ := hy
      replace hn0 : acc.length + q2.l.length ≤ N := hn0
      replace hn : q2.l.length ≤ n := hn
      have hpos : 0 < q2.l.length := by
        obtain ⟨l, ok, ns, u, tw⟩ := q2
        cases l with
        | nil => exact ok.not_nil.elim
        | cons t r => simp
      obtain ⟨m, rfl⟩ : ∃ m, n = m + 1 := ⟨n - 1, by omega⟩
      have ht := take_ctr g q2 dotC (by decide)
      have htl := takeS_len (s := dotC) (p := q2)
      replace hR2 : numsGo (m + 1) acc q2 = R := hR2
      conv => whnf
      repeat' (first | (refine And.intro (by first | exact rfl | decide | exact Nat.le_of_ble_eq_true rfl | exact ⟨_, rfl⟩ | exact ⟨_, _, rfl⟩ | omega | (simp only [List.length_map]; omega) | exact True.intro | (simp only [IntKind.wrap_i64, List.length_map]; omega) | (simp only [List.map_cons, List.map_nil, List.length_cons, Option.getD]; omega) | (simp only [bsz, ByteArray.size_append, List.size_toArray, List.length_cons, List.length_nil]; omega)) ?_; conv => whnf) | (refine ifB_intro (fun hA => ?_) (fun hA => ?_) <;> (try rw [hA]) <;> (conv => whnf) <;> (first | replace hA := of_decide_eq_true hA | replace hA := of_decide_eq_false hA | replace hA := eq_of_beq hA | replace hA := ne_of_beq_false hA | replace hA := bne_iff_ne.1 hA | replace hA := bne_eq_false_iff_eq.1 hA | skip) <;> (try simp only [Bool.not_eq_true', Bool.not_eq_false'] at hA)) | (refine CallP.hlb (ht) (by (conv => whnf); repeat' first | exact trivial | refine And.intro (fun _ h => h) ?_) rfl ?_; conv => whnf) | (refine CallD.hlb (ht) (by (conv => whnf); repeat' first | exact trivial | refine And.intro (fun _ h => h) ?_) ?_; conv => whnf))
      · have hR3 : (numS (takeS dotC q2).2).bind (fun x => numsGo m (acc ++ [x.1]) x.2) = R := by rw [← hR2, numsGo, if_neg (by simp [hA])]
        cases hP2 : numS (takeS dotC q2).2 with
        | none =>
          have hc2 := (num5_ctr g (takeS dotC q2).2).none hP2
          have hRn : progS p = none := by rw [progS, hhead, ← hR3, hP2]; rfl
          refine DrawP.any (X := ax g) (by decide +kernel) ?_
          conv => whnf
          repeat' (first | (refine And.intro (by first | exact rfl | decide | exact Nat.le_of_ble_eq_true rfl | exact ⟨_, rfl⟩ | exact ⟨_, _, rfl⟩ | omega | (simp only [List.length_map]; omega) | exact True.intro | (simp only [IntKind.wrap_i64, List.length_map]; omega) | (simp only [List.map_cons, List.map_nil, List.length_cons, Option.getD]; omega) | (simp only [bsz, ByteArray.size_append, List.size_toArray, List.length_cons, List.length_nil]; omega)) ?_; conv => whnf) | (refine ifB_intro (fun hA => ?_) (fun hA => ?_) <;> (try rw [hA]) <;> (conv => whnf) <;> (first | replace hA := of_decide_eq_true hA | replace hA := of_decide_eq_false hA | replace hA := eq_of_beq hA | replace hA := ne_of_beq_false hA | replace hA := bne_iff_ne.1 hA | replace hA := bne_eq_false_iff_eq.1 hA | skip) <;> (try simp only [List.length_map, cond_true, cond_false, Bool.not_eq_true', Bool.not_eq_false', beq_iff_eq, beq_eq_false_iff_ne, ne_eq] at hA)) | (refine CallP.dies (hc2) (by (conv => whnf); repeat' first | exact trivial | refine And.intro (fun _ h => h) ?_) ?_; (conv => whnf); refine ⟨⟨[], trivial, rfl, ?_⟩⟩) | (refine BothP.mk ?_ ?_ <;> conv => whnf))
          all_goals (rw [hRn]; rfl)
        | some y =>
          obtain ⟨v, r⟩ := y
          have hc2 := (num5_ctr g (takeS dotC q2).2).some hP2
          have hl3 := numS_len hP2
          rw [hP2] at hR3
          refine DrawP.intro (X := ax g) (id := 5) B58_5 (by kernel_rfl) (by decide +kernel) ?_
          conv => whnf
          repeat' (first | (refine And.intro (by first | exact rfl | decide | exact Nat.le_of_ble_eq_true rfl | exact ⟨_, rfl⟩ | exact ⟨_, _, rfl⟩ | omega | (simp only [List.length_map]; omega) | exact True.intro | (simp only [List.length_map]; omega) | (simp only [List.length_cons]; omega) | (simp only [List.length_cons, List.length_nil]; omega)) ?_; conv => whnf) | (refine ifB_intro (fun hA => ?_) (fun hA => ?_) <;> (try rw [hA]) <;> (conv => whnf) <;> (first | replace hA := of_decide_eq_true hA | replace hA := of_decide_eq_false hA | replace hA := eq_of_beq hA | replace hA := ne_of_beq_false hA | replace hA := bne_iff_ne.1 hA | replace hA := bne_eq_false_iff_eq.1 hA | skip) <;> (try simp only [List.length_map, cond_true, cond_false, Bool.not_eq_true', Bool.not_eq_false', beq_iff_eq, beq_eq_false_iff_ne, ne_eq] at hA)) | (refine CallP.hlb (hc2) (by (conv => whnf); repeat' first | exact trivial | refine And.intro (fun _ h => h) ?_) rfl ?_; conv => whnf) | (refine CallD.hlb (hc2) (by (conv => whnf); repeat' first | exact trivial | refine And.intro (fun _ h => h) ?_) ?_; conv => whnf) | (refine And.intro (by first | exact (List.length_map ..).symm | (simp only [List.length_map, List.length_cons, List.length_nil]; omega)) ?_; conv => whnf))
          refine ⟨(acc ++ [v], r), ⟨by show (acc ++ [v]).length + r.l.length ≤ N; simp only [List.length_append, List.length_cons, List.length_nil]; omega, m, by show r.l.length ≤ m; omega, hR3⟩, by show r.l.length < q2.l.length; omega, ⟨⟨rfl, rfl, rfl, trivial⟩, ⟨fun o h => h, fun o h => ?_, fun o h => ?_, fun o h => h, fun o h => h, fun o h => h, trivial⟩⟩⟩
          · rw [← h]; simp; rfl
          · rw [← h]; simp; rfl
      · have hR3 : R = some (acc, (takeS dotC q2).2) := by rw [← hR2, numsGo, if_pos hA]
        generalize hq3 : (takeS dotC q2).2 = q3 at hR3 htl
        rw [hR3] at hhead
        simp only [Option.bind_some] at hhead
        generalize hRL : letsGo q3.l.length q3 = RL at hhead
        refine LoopP.inv (X := ax g) (fun y : SP => { f := [(0, .ptr 9000 0), (2, .ptr 2 0), (3, .ptr 3 0)], h := outH acc [] 0 0 0 (.v (.slice none 0 0)) y }) (fun y => acc.length + y.l.length ≤ N ∧ ∃ n, y.l.length ≤ n ∧ letsGo n y = RL) (fun y => y.l.length) q3 ⟨by omega, q3.l.length, Nat.le_refl _, hRL⟩ ⟨⟨rfl, rfl, rfl, trivial⟩, ⟨fun o h => h, fun o h => h, fun o h => h, fun o h => h, fun o h => h, fun o h => h, trivial⟩⟩ fun y hy => ?_
        obtain ⟨hn1, n1, hn2, hRL2⟩ := hy
        have hpos1 : 0 < y.l.length := by
          obtain ⟨l, ok, ns, u, tw⟩ := y
          cases l with
          | nil => exact ok.not_nil.elim
          | cons t r => simp
        obtain ⟨m1, rfl⟩ : ∃ m, n1 = m + 1 := ⟨n1 - 1, by omega⟩
        have ht1 := take_ctr g y letC (by decide)
        have htl1 := takeS_len (s := letC) (p := y)
        have hdie : letsGo (m1 + 1) y = none → progS p = none := fun h => by rw [progS, hhead, ← hRL2, h]; rfl
        conv => whnf
        repeat' (first | (refine And.intro (by first | exact rfl | decide | exact Nat.le_of_ble_eq_true rfl | exact ⟨_, rfl⟩ | exact ⟨_, _, rfl⟩ | omega | (simp only []; omega) | exact True.intro | (simp only []; omega) | (simp only []; omega) | (simp only []; omega)) ?_; conv => whnf) | (refine ifB_intro (fun hA => ?_) (fun hA => ?_) <;> (try rw [hA]) <;> (conv => whnf) <;> (first | replace hA := of_decide_eq_true hA | replace hA := of_decide_eq_false hA | replace hA := eq_of_beq hA | replace hA := ne_of_beq_false hA | replace hA := bne_iff_ne.1 hA | replace hA := bne_eq_false_iff_eq.1 hA | skip) <;> (try simp only [List.length_map, cond_true, cond_false, Bool.not_eq_true', Bool.not_eq_false', beq_iff_eq, beq_eq_false_iff_ne, ne_eq] at hA)) | (refine CallP.hlb (ht1) (by (conv => whnf); repeat' first | exact trivial | refine And.intro (fun _ h => h) ?_) rfl ?_; conv => whnf) | (refine CallD.hlb (ht1) (by (conv => whnf); repeat' first | exact trivial | refine And.intro (fun _ h => h) ?_) ?_; conv => whnf) | (refine CallP.may (name5_ctr g _) (by (conv => whnf); repeat' first | exact trivial | refine And.intro (fun _ h => h) ?_) (fun _ => rfl) (fun hN => ?_) (fun xS hS => ?_) <;> (conv => whnf) <;> (try refine ⟨⟨[], trivial, rfl, ?_⟩⟩)) | (refine CallP.may (must5_ctr g xS.2 eqB (by decide)) (by (conv => whnf); repeat' first | exact trivial | refine And.intro (fun _ h => h) ?_) (fun _ => rfl) (fun hN => ?_) (fun xS hS => ?_) <;> (conv => whnf) <;> (try refine ⟨⟨[], trivial, rfl, ?_⟩⟩)) | (refine CallP.may (must5_ctr g xS.2 dotC (by decide)) (by (conv => whnf); repeat' first | exact trivial | refine And.intro (fun _ h => h) ?_) (fun _ => rfl) (fun hN => ?_) (fun xS hS => ?_) <;> (conv => whnf) <;> (try refine ⟨⟨[], trivial, rfl, ?_⟩⟩)) | (refine CallP.may (num5_ctr g xS) (by (conv => whnf); repeat' first | exact trivial | refine And.intro (fun _ h => h) ?_) (fun _ => rfl) (fun hN => ?_) (fun xS hS => ?_) <;> (conv => whnf) <;> (try refine ⟨⟨[], trivial, rfl, ?_⟩⟩)))
        · rw [hdie (by rw [letsGo, if_pos hA, hN]; rfl)]; rfl
        · rw [hdie (by rw [letsGo, if_pos hA, hS]; simp only [Option.bind_some, hN]; rfl)]; rfl
        · rename_i w hw
          rw [hdie (by rw [letsGo, if_pos hA, hw]; simp only [Option.bind_some, hS, hN]; rfl)]; rfl
        · rename_i w hw a ha
          rw [hdie (by rw [letsGo, if_pos hA, hw]; simp only [Option.bind_some, ha, hS, hN]; rfl)]; rfl
        · rename_i w hw a ha x2 hx2
          have hRL3 : letsGo m1 (noted xS w.1 x2.1) = RL := by rw [← hRL2, letsGo, if_pos hA, hw]; simp only [Option.bind_some, ha, hx2, hS]
          have b1 := nameS_len hw
          have b2 := mustS_len ha
          have b3 := numS_len hx2
          have b4 := mustS_len hS
          have b5 := htl1.2 hA
          repeat' (first | (refine And.intro (by first | exact rfl | decide | exact Nat.le_of_ble_eq_true rfl | exact ⟨_, rfl⟩ | exact ⟨_, _, rfl⟩ | omega | (simp only []; omega) | exact True.intro | (simp only []; omega) | (simp only []; omega) | (simp only []; omega)) ?_; conv => whnf) | (refine ifB_intro (fun hA => ?_) (fun hA => ?_) <;> (try rw [hA]) <;> (conv => whnf) <;> (first | replace hA := of_decide_eq_true hA | replace hA := of_decide_eq_false hA | replace hA := eq_of_beq hA | replace hA := ne_of_beq_false hA | replace hA := bne_iff_ne.1 hA | replace hA := bne_eq_false_iff_eq.1 hA | skip) <;> (try simp only [List.length_map, cond_true, cond_false, Bool.not_eq_true', Bool.not_eq_false', beq_iff_eq, beq_eq_false_iff_ne, ne_eq] at hA)) | (refine And.intro (keyOk_ns _) ?_; conv => whnf) | (refine And.intro (keysOk_ns _) ?_; conv => whnf) | (refine And.intro (hasGet_ns _ _) ?_; conv => whnf))
          · refine ⟨noted xS w.1 x2.1, ⟨by show acc.length + xS.l.length ≤ N; omega, m1, by show xS.l.length ≤ m1; omega, hRL3⟩, by show xS.l.length < y.l.length; omega, ⟨⟨rfl, rfl, rfl, trivial⟩, ⟨fun o h => h, fun o h => h, fun o h => h, fun o h => h, fun o h => ?_, fun o h => ?_, trivial⟩⟩⟩
            · rw [← h]; simp only [objSP, noted, hA, Bool.true_or]; rfl
            · rw [← h]; exact congrArg (fun z => some (AObj.map false z)) (mput_ns xS.ns w.1 x2.1)
          · refine ⟨noted xS w.1 x2.1, ⟨by show acc.length + xS.l.length ≤ N; omega, m1, by show xS.l.length ≤ m1; omega, hRL3⟩, by show xS.l.length < y.l.length; omega, ⟨⟨rfl, rfl, rfl, trivial⟩, ⟨fun o h => h, fun o h => h, fun o h => h, fun o h => h, fun o h => ?_, fun o h => ?_, trivial⟩⟩⟩
            · rw [← h]; simp only [objSP, noted, hA, Bool.false_or]; exact congrArg (fun z => some (AObj.var [.d (.sl false 3 (xS.l.map rowK)), .mp 9001, .bool z, .bool xS.twi])) (mhas_ns xS.ns w.1)
            · rw [← h]; exact congrArg (fun z => some (AObj.map false z)) (mput_ns xS.ns w.1 x2.1)
        · generalize hbq : (takeS letC y).2 = b at htl1
          have hhb : headS p = some (acc, b) := by rw [hhead, ← hRL2, letsGo, if_neg (by simp [hA]), hbq]; rfl
          have hpb : progS p = bodyS acc b := by rw [progS, hhb]; rfl
          rw [hpb]
          repeat' (first | (refine And.intro (by first | exact rfl | decide | exact Nat.le_of_ble_eq_true rfl | exact ⟨_, rfl⟩ | exact ⟨_, _, rfl⟩ | omega | (simp only [List.length_map]; omega) | exact True.intro | (simp only [IntKind.wrap_i64, List.length_map]; omega) | (simp only [List.map_cons, List.map_nil, List.length_cons, Option.getD]; omega) | (simp only [bsz, ByteArray.size_append, List.size_toArray, List.length_cons, List.length_nil]; omega)) ?_; conv => whnf) | (refine ifB_intro (fun hA => ?_) (fun hA => ?_) <;> (try rw [hA]) <;> (conv => whnf) <;> (first | replace hA := of_decide_eq_true hA | replace hA := of_decide_eq_false hA | replace hA := eq_of_beq hA | replace hA := ne_of_beq_false hA | replace hA := bne_iff_ne.1 hA | replace hA := bne_eq_false_iff_eq.1 hA | skip) <;> (try simp only [List.length_map, cond_true, cond_false, Bool.not_eq_true', Bool.not_eq_false', beq_iff_eq, beq_eq_false_iff_ne, ne_eq] at hA)) | (refine CallP.may (must5_ctr g b policyC (by decide)) (by (conv => whnf); repeat' first | exact trivial | refine And.intro (fun _ h => h) ?_) (fun _ => rfl) (fun hN => ?_) (fun xS hS => ?_) <;> (conv => whnf) <;> (try refine ⟨⟨[], trivial, rfl, ?_⟩⟩)) | (refine CallP.may (sum_ctr g xS.l.length xS (Nat.le_refl _) (by have := mustS_len hS; omega)) (by (conv => whnf); repeat' first | exact trivial | refine And.intro (fun _ h => h) ?_) (fun _ => rfl) (fun hN => ?_) (fun xS hS => ?_) <;> (conv => whnf) <;> (try refine ⟨⟨[], trivial, rfl, ?_⟩⟩)) | (refine CallP.may (must5_ctr g xS.2 dotC (by decide)) (by (conv => whnf); repeat' first | exact trivial | refine And.intro (fun _ h => h) ?_) (fun _ => rfl) (fun hN => ?_) (fun xS hS => ?_) <;> (conv => whnf) <;> (try refine ⟨⟨[], trivial, rfl, ?_⟩⟩)))
          · rw [bodyS, hN]; rfl
          · rw [bodyS, hS]; simp only [Option.bind_some, hN]; rfl
          · rename_i c1 hc1
            rw [bodyS, hc1]; simp only [Option.bind_some, hS, hN]; rfl
          · rename_i c1 hc1 s1 hs1
            have d1 := mustS_len hc1
            have d2 := sumS_len _ _ _ _ hs1
            have d3 := mustS_len hS
            have hbs : bodyS acc b = (rulesGo xS.l.length [] xS).bind fun rs => if (hdT rs.2).kind = 0 then some (⟨acc, s1.1, rs.1⟩, rs.2) else none := by
              rw [bodyS, hc1]; simp only [Option.bind_some, hs1, hS]
            rw [hbs]
            generalize hRR : rulesGo xS.l.length [] xS = RR
            refine LoopP.inv (X := ax g) (fun z : List RuleT × SP => { f := [(0, .ptr 9000 0), (2, .ptr 2 0), (3, .ptr 3 0)], h := outH acc z.1 s1.1.op s1.1.f s1.1.n (.sl false 4 (s1.1.kids.map rowO4)) z.2 }) (fun z => z.1.length + z.2.l.length ≤ N ∧ ∃ n, z.2.l.length ≤ n ∧ rulesGo n z.1 z.2 = RR) (fun z => z.2.l.length) ([], xS) ⟨by show 0 + xS.l.length ≤ N; omega, xS.l.length, Nat.le_refl _, hRR⟩ ⟨⟨rfl, rfl, rfl, trivial⟩, ⟨fun o h => h, fun o h => h, fun o h => h, fun o h => h, fun o h => h, fun o h => h, trivial⟩⟩ fun z hz => ?_
            obtain ⟨rs, z⟩ := z
            obtain ⟨e0, nn, e1, e3⟩ := hz
            replace e0 : rs.length + z.l.length ≤ N := e0
            replace e1 : z.l.length ≤ nn := e1
            have hposz : 0 < z.l.length := by
              obtain ⟨l, ok, ns, u, tw⟩ := z
              cases l with
              | nil => exact ok.not_nil.elim
              | cons t r => simp
            obtain ⟨mm, rfl⟩ : ∃ m, nn = m + 1 := ⟨nn - 1, by omega⟩
            replace e3 : rulesGo (mm + 1) rs z = RR := e3
            have htz := take_ctr g z onC (by decide)
            have htlz := takeS_len (s := onC) (p := z)
            conv => whnf
            repeat' (first | (refine And.intro (by first | exact rfl | decide | exact Nat.le_of_ble_eq_true rfl | exact ⟨_, rfl⟩ | exact ⟨_, _, rfl⟩ | omega | (simp only [List.length_map]; omega) | exact True.intro | (simp only [List.length_map]; omega) | (simp only [List.map_cons, List.map_nil, List.length_cons, Option.getD]; omega) | (simp only [bsz, ByteArray.size_append, List.size_toArray, List.length_cons, List.length_nil]; omega)) ?_; conv => whnf) | (refine ifB_intro (fun hA => ?_) (fun hA => ?_) <;> (try rw [hA]) <;> (conv => whnf) <;> (first | replace hA := of_decide_eq_true hA | replace hA := of_decide_eq_false hA | replace hA := eq_of_beq hA | replace hA := ne_of_beq_false hA | replace hA := bne_iff_ne.1 hA | replace hA := bne_eq_false_iff_eq.1 hA | skip) <;> (try simp only [List.length_map, cond_true, cond_false, Bool.not_eq_true', Bool.not_eq_false', beq_iff_eq, beq_eq_false_iff_ne, ne_eq] at hA)) | (refine CallP.hlb (htz) (by (conv => whnf); repeat' first | exact trivial | refine And.intro (fun _ h => h) ?_) rfl ?_; conv => whnf) | (refine CallD.hlb (htz) (by (conv => whnf); repeat' first | exact trivial | refine And.intro (fun _ h => h) ?_) ?_; conv => whnf))
            · have hru := rule5_ctr g N hN0 (takeS onC z).2 (by omega)
              have e4 : (ruleS (takeS onC z).2).bind (fun x => rulesGo mm (rs ++ [x.1]) x.2) = RR := by rw [← e3, rulesGo, if_pos hA]
              cases hP3 : ruleS (takeS onC z).2 with
              | none =>
                have hc3 := hru.none hP3
                have e5 : RR = none := by rw [← e4, hP3]; rfl
                refine DrawP.any (X := ax g) (by decide +kernel) ?_
                conv => whnf
                repeat' (first | (refine And.intro (by first | exact rfl | decide | exact Nat.le_of_ble_eq_true rfl | exact ⟨_, rfl⟩ | exact ⟨_, _, rfl⟩ | omega | (simp only [List.length_map]; omega) | exact True.intro | (simp only [IntKind.wrap_i64, List.length_map]; omega) | (simp only [List.map_cons, List.map_nil, List.length_cons, Option.getD]; omega) | (simp only [bsz, ByteArray.size_append, List.size_toArray, List.length_cons, List.length_nil]; omega)) ?_; conv => whnf) | (refine ifB_intro (fun hA => ?_) (fun hA => ?_) <;> (try rw [hA]) <;> (conv => whnf) <;> (first | replace hA := of_decide_eq_true hA | replace hA := of_decide_eq_false hA | replace hA := eq_of_beq hA | replace hA := ne_of_beq_false hA | replace hA := bne_iff_ne.1 hA | replace hA := bne_eq_false_iff_eq.1 hA | skip) <;> (try simp only [List.length_map, cond_true, cond_false, Bool.not_eq_true', Bool.not_eq_false', beq_iff_eq, beq_eq_false_iff_ne, ne_eq] at hA)) | (refine CallP.dies (hc3) (by (conv => whnf); repeat' first | exact trivial | refine And.intro (fun _ h => h) ?_) ?_; (conv => whnf); refine ⟨⟨[], trivial, rfl, ?_⟩⟩) | (refine BothP.mk ?_ ?_ <;> conv => whnf))
                all_goals (rw [e5]; rfl)
              | some y3 =>
                obtain ⟨r3, z3⟩ := y3
                have hc3 := hru.some hP3
                rw [hP3] at e4
                refine DrawP.intro (X := ax g) (id := 18) B58_18 (by kernel_rfl) (by decide +kernel) ?_
                conv => whnf
                repeat' (first | (refine And.intro (by first | exact rfl | decide | exact Nat.le_of_ble_eq_true rfl | exact ⟨_, rfl⟩ | exact ⟨_, _, rfl⟩ | omega | (simp only [List.length_map]; omega) | exact True.intro | (simp only [List.length_map]; omega) | (simp only [List.length_cons]; omega) | (simp only [List.length_cons, List.length_nil]; omega)) ?_; conv => whnf) | (refine ifB_intro (fun hA => ?_) (fun hA => ?_) <;> (try rw [hA]) <;> (conv => whnf) <;> (first | replace hA := of_decide_eq_true hA | replace hA := of_decide_eq_false hA | replace hA := eq_of_beq hA | replace hA := ne_of_beq_false hA | replace hA := bne_iff_ne.1 hA | replace hA := bne_eq_false_iff_eq.1 hA | skip) <;> (try simp only [List.length_map, cond_true, cond_false, Bool.not_eq_true', Bool.not_eq_false', beq_iff_eq, beq_eq_false_iff_ne, ne_eq] at hA)) | (refine CallP.hlb (hc3) (by (conv => whnf); repeat' first | exact trivial | refine And.intro (fun _ h => h) ?_) rfl ?_; conv => whnf) | (refine CallD.hlb (hc3) (by (conv => whnf); repeat' first | exact trivial | refine And.intro (fun _ h => h) ?_) ?_; conv => whnf) | (refine And.intro (by first | exact (List.length_map ..).symm | (simp only [List.length_map, List.length_cons, List.length_nil]; omega)) ?_; conv => whnf))
                have hz3 := ruleS_len hP3
                have hzz := htlz.2 hA
                refine ⟨(rs ++ [r3], z3), ⟨by show (rs ++ [r3]).length + z3.l.length ≤ N; simp only [List.length_append, List.length_cons, List.length_nil]; omega, mm, by show z3.l.length ≤ mm; omega, e4⟩, by show z3.l.length < z.l.length; omega, ⟨⟨rfl, rfl, rfl, trivial⟩, ⟨fun o h => h, fun o h => ?_, fun o h => h, fun o h => ?_, fun o h => h, fun o h => h, trivial⟩⟩⟩
                · rw [← h]; simp; rfl
                · rw [← h]; simp; rfl
            · have e6 : RR = some (rs, (takeS onC z).2) := by rw [← e3, rulesGo, if_neg (by simp [hA])]
              rw [e6]
              generalize (takeS onC z).2 = zz
              obtain ⟨l, ok, ns, u, tw⟩ := zz
              cases l with
              | nil => exact ok.not_nil.elim
              | cons t r =>
                repeat' (first | (refine And.intro (by first | exact rfl | decide | exact Nat.le_of_ble_eq_true rfl | exact ⟨_, rfl⟩ | exact ⟨_, _, rfl⟩ | omega | (simp only [List.length_map]; omega) | exact True.intro | (simp only [List.length_map]; omega) | (simp only [List.map_cons, List.length_cons]; omega) | (simp only [bsz, ByteArray.size_append, List.size_toArray, List.length_cons, List.length_nil]; omega)) ?_; conv => whnf) | (refine ifB_intro (fun hA => ?_) (fun hA => ?_) <;> (try rw [hA]) <;> (conv => whnf) <;> (first | replace hA := of_decide_eq_true hA | replace hA := of_decide_eq_false hA | replace hA := eq_of_beq hA | replace hA := ne_of_beq_false hA | replace hA := bne_iff_ne.1 hA | replace hA := bne_eq_false_iff_eq.1 hA | skip) <;> (try simp only [ne_eq] at hA)) | (refine CallP.fails (fail_ctr g) ?_; (conv => whnf); refine ⟨⟨[], trivial, rfl, ?_⟩⟩))
                · simp only [Option.bind_some]
                  rw [if_neg (show ¬(hdT ⟨t :: r, ok, ns, u, tw⟩).kind = 0 from hA)]; rfl
                · simp only [Option.bind_some]
                  rw [if_pos (show (hdT ⟨t :: r, ok, ns, u, tw⟩).kind = 0 from hA)]
                  refine ⟨⟨spH ⟨t :: r, ok, ns, u, tw⟩, ?_⟩⟩
                  conv => whnf
                  repeat' (first | (refine And.intro (by first | exact rfl | decide | exact Nat.le_of_ble_eq_true rfl | exact ⟨_, rfl⟩ | exact ⟨_, _, rfl⟩ | omega | (simp only [List.length_map]; omega) | exact True.intro | (simp only [List.length_map]; omega) | (simp only [List.map_cons]; omega) | (simp only []; omega)) ?_; conv => whnf) | (refine ifB_intro (fun hA => ?_) (fun hA => ?_) <;> (try rw [hA]) <;> (conv => whnf) <;> (first | replace hA := of_decide_eq_true hA | replace hA := of_decide_eq_false hA | replace hA := eq_of_beq hA | replace hA := ne_of_beq_false hA | replace hA := bne_iff_ne.1 hA | replace hA := bne_eq_false_iff_eq.1 hA | skip) <;> (try simp only [List.length_map, cond_true, cond_false, Bool.not_eq_true', Bool.not_eq_false', beq_iff_eq, beq_eq_false_iff_ne, ne_eq] at hA)) | (refine And.intro ⟨fun o h => h, fun o h => h, trivial⟩ ?_; conv => whnf) | (refine And.intro (by first | exact (List.length_map ..).symm | (simp only [List.length_map, Nat.zero_add]; omega)) ?_; conv => whnf))
                  have t1 : List.take acc.length (List.drop 0 (acc.map rowS)) = acc.map rowS := by simp [← List.map_take]
                  have t2 : List.take rs.length (List.drop 0 (rs.map rowR)) = rs.map rowR := by simp [← List.map_take]
                  show AOut.ret (.agg [.d (.sl false 1 (List.take acc.length (List.drop 0 (acc.map rowS)))), .d (.i64 s1.1.op), .d (.i64 s1.1.f), .d (.u16 s1.1.n), .d (.sl false 4 (s1.1.kids.map rowO4)), .d (.sl false 3 (List.take rs.length (List.drop 0 (rs.map rowR))))]) _ = _
                  rw [t1, t2]
                  rfl
end Go.Ax
namespace Go.Ax
open Go.Proofs Go.RowKit Go.Shelf
theorem infoB : ∃ j, Tryd.prog.info? 83 = some j ∧ j.size = 2 := by
  have h : (Tryd.prog.info? 83).map (·.size) = some 2 := by kernel_rfl
  obtain ⟨j, hj, hs⟩ := Option.map_eq_some_iff.1 h
  exact ⟨j, hj, hs⟩
set_option maxHeartbeats 1000000 in
set_option maxRecDepth 100000 in
theorem copyCheck_used (b : Nat) (w : World) (h0 : w.cell? ⟨b, 0, none⟩ = some (.pointer (some ⟨b, 0, none⟩))) :
    Calls Tryd.prog 63 #[.pointer (some ⟨b, 0, none⟩)] w fun e w' => e = .returned (.tuple #[]) ∧ w' = w := by
  obtain ⟨j, hj, _⟩ := infoB
  go_enter Tryd.func63, Tryd.ntmps63
  go_wp2
  rw [Lib.run_neq_ptr_same w _ Tryd.underlying80 hj]
  go_wp2
  go_end0
  exact ⟨rfl, rfl⟩
set_option maxHeartbeats 1000000 in
set_option maxRecDepth 100000 in
theorem copyCheck_fresh (T : TypeId) (hT : liesAt Tryd.prog Tryd.prog.depth T (2 / Tryd.prog.cellsOf T) 0 83 1 = true) (b : Nat) (w : World) (h0 : w.cell? ⟨b, 0, none⟩ = some (.pointer none)) (hsh : w.shape? b = some (T, 2)) (hfz : w.frozen? ⟨b, 0, none⟩ = false) :
    Calls Tryd.prog 63 #[.pointer (some ⟨b, 0, none⟩)] w fun e w' => e = .returned (.tuple #[]) ∧ w' = w.setCell ⟨b, 0, none⟩ (.pointer (some ⟨b, 0, none⟩)) := by
  obtain ⟨j, hj, hjs⟩ := infoB
  go_enter Tryd.func63, Tryd.ntmps63
  go_wp2
  rw [Lib.run_to_unsafe w ⟨b, 0, none⟩ Tryd.underlying80 Tryd.underlying158 hj (by rw [hjs]; decide) hsh (Nat.zero_lt_succ 1)]
  simp only [Result.andThen]
  rw [Oper.upon_value]
  go_wp2
  rw [run_callFunc_extern Tryd.func93 (by kernel_rfl) (by kernel_rfl) (by kernel_rfl) (e := Extern.AbiNoEscape.same) (by kernel_rfl)]
  rw [Lib.run_noEscape]
  simp only [Result.andThen]
  rw [Oper.upon_value]
  go_wp2
  rw [Lib.run_from_unsafe w ⟨b, 0, none⟩ Tryd.underlying158 Tryd.underlying80 hj hsh hT]
  simp only [Result.andThen]
  rw [Oper.upon_value]
  go_wp2
  go_end0
  exact ⟨rfl, rfl⟩
end Go.Ax
namespace Go.Ax
open Go.Proofs Go.RowKit Go.Shelf
set_option maxRecDepth 10000
def zB : List D := [.v (.pointer none), .v (.slice none 0 0)]
theorem lkH_two {q r1 r2 : Nat} {o1 o2 o : AObj} (h : lkH q [(r1, some o1), (r2, some o2)] = some o) : (q = r1 ∧ o = o1) ∨ (q = r2 ∧ o = o2) := by
  simp only [lkH] at h
  split at h
  · rename_i hb; injection h with h; exact .inl ⟨(Nat.eq_of_beq_eq_true hb).symm, h.symm⟩
  · split at h
    · rename_i hb; injection h with h; exact .inr ⟨(Nat.eq_of_beq_eq_true hb).symm, h.symm⟩
    · simp at h
theorem lkH_one {q r1 : Nat} {o1 o : AObj} (h : lkH q [(r1, some o1)] = some o) : q = r1 ∧ o = o1 := by
  simp only [lkH] at h
  split at h
  · rename_i hb; injection h with h; exact ⟨(Nat.eq_of_beq_eq_true hb).symm, h.symm⟩
  · simp at h
theorem after_same {w : World} {Im : Nat → Prop} {ρ : Nat → Option Loc} {hin : HL} (hIm : ∀ b, Im b → b < w.heap.size) (hrel : HRel w Im ρ hin (fun _ => True)) (hcl : ∀ r o, lkH r hin = some o → ClosedO hin o) : After w Im ρ hin w Im ρ hin where
  grows := Grows.refl w _
  im := fun b hb => hb
  imn := fun b hb => ⟨hIm b hb, .inl hb⟩
  rel := ⟨fun r o hr => let ⟨l, h1, h2, h3⟩ := hrel.obj r o hr; ⟨l, h1, h2, fun b hb => ⟨(h3 b hb).1, (h3 b hb).2.1, .inr ⟨r, o, l, hr, h1, hb⟩⟩⟩, hrel.dis⟩
  anc := fun r o hr l' hl' => ⟨l', hl', .inl rfl⟩
  cl := hcl
theorem ra_tup0 {h : Nat → Option Obj} {Im : Nat → Prop} {ρ : Nat → Option Loc} : RA h Im ρ (.tuple #[]) (.tup []) := .tup _ _ rfl (by simp)
theorem ra_arg0 {h : Nat → Option Obj} {Im : Nat → Prop} {ρ : Nat → Option Loc} {vs : Array Value} {args : List AV} (hsz : vs.size = args.length) (hra : ∀ (i : Nat) (v : Value) (x : AV), vs[i]? = some v → args[i]? = some x → RA h Im ρ v x) {i : Nat} {x : AV} (hx : args[i]? = some x) : ∃ v, vs[i]? = some v ∧ RA h Im ρ v x := by
  have hi : i < vs.size := by rw [hsz]; exact (List.getElem?_eq_some_iff.1 hx).1
  exact ⟨vs[i], Array.getElem?_eq_getElem hi, hra i _ x (Array.getElem?_eq_getElem hi) hx⟩
abbrev bvar (n : Nat) : AObj := .var [.ptr 9000 0, .msl 9001 n 0 n]
theorem checkUsed_ctr (g : GP) (n : Nat) (els : List (List D)) : Ctr (ax g).E 63 [.ptr 9000 0] [(9000, some (bvar n)), (9001, some (.buf 1 5 els))] (fun o => o = .ret (.tup []) [(9000, some (bvar n)), (9001, some (.buf 1 5 els))]) := by
  refine ⟨⟨_, Tryd.func63, rfl, by decide +kernel⟩, fun w Im ρ vs hG hIm hgl hsz hra hrel => ?_⟩
  obtain ⟨l, hl, hro, _⟩ := hrel.obj 9000 (bvar n) rfl
  obtain ⟨v, hv, hr⟩ := ra_arg0 hsz hra (i := 0) rfl
  obtain ⟨h1, h2, b, ms, t, h3, h4, h5, h6⟩ := hro
  have hvp : v = .pointer (some ⟨b, 0, none⟩) := by
    cases hr with
    | ptr _ _ _ _ hp =>
      obtain ⟨_, b', q1, q2⟩ := hp l hl
      rw [h3] at q1; injection q1 with q1; subst q1; exact q2
  have hvs : vs = #[.pointer (some ⟨b, 0, none⟩)] := by
    apply Array.ext (by simpa using hsz)
    intro i i1 i2
    simp at i2; subst i2
    rw [Array.getElem?_eq_getElem i1] at hv
    injection hv with hv; rw [hv, hvp]; rfl
  have hm0 : ms[0]? = some (.pointer (some ⟨b, 0, none⟩)) := by
    have h5 : ms.size = 2 := h5
    obtain ⟨u, hu⟩ : ∃ u, ms[0]? = some u := ⟨_, Array.getElem?_eq_getElem (by omega)⟩
    obtain ⟨r1, _⟩ := h6 0 u hu (.ptr 9000 0) rfl
    rw [hu]
    cases r1 with
    | ptr _ _ _ _ hp =>
      obtain ⟨_, b', q1, q2⟩ := hp l hl
      rw [h3] at q1; injection q1 with q1; subst q1; rw [q2]
  have hc : w.cell? ⟨b, 0, none⟩ = some (.pointer (some ⟨b, 0, none⟩)) := by rw [Lib.cell_of_heap h4]; exact hm0
  rw [hvs]
  refine (copyCheck_used b w hc).mono fun e w' ⟨he, hw⟩ => ?_
  subst he; subst hw
  refine ⟨_, _, Im, ρ, rfl, ra_tup0, fun r hr => by simp [AV.ment, AV.ment.mentL] at hr, after_same hIm hrel fun r o hr => ?_⟩
  rcases lkH_two hr with ⟨rfl, rfl⟩ | ⟨rfl, rfl⟩
  · intro q hq
    simp [AObj.ment, AV.ment.mentL, AV.ment] at hq
    rcases hq with rfl | rfl <;> rfl
  · intro q hq; simp [AObj.ment] at hq
def BldT (T : TypeId) : Prop := liesAt Tryd.prog Tryd.prog.depth T (2 / Tryd.prog.cellsOf T) 0 83 1 = true
theorem bldT110 : BldT 85 := by unfold BldT; kernel_rfl
theorem checkFresh_ctr (g : GP) (T : TypeId) (hT : BldT T) : Ctr (ax g).E 63 [.ptr 9000 0] [(9000, some (.tvar T zB))] (fun o => o = .ret (.tup []) [(9000, some (bvar 0)), (9001, some (.buf 1 5 []))]) := by
  refine ⟨⟨_, Tryd.func63, rfl, by decide +kernel⟩, fun w Im ρ vs hG hIm hgl hsz hra hrel => ?_⟩
  obtain ⟨l, hl, hro, hown⟩ := hrel.obj 9000 (.tvar T zB) rfl
  obtain ⟨v, hv, hr⟩ := ra_arg0 hsz hra (i := 0) rfl
  obtain ⟨h1, h2, b, ms, h3, h4, h5, h6⟩ := hro
  have hvp : v = .pointer (some ⟨b, 0, none⟩) := by
    cases hr with
    | ptr _ _ _ _ hp =>
      obtain ⟨_, b', q1, q2⟩ := hp l hl
      rw [h3] at q1; injection q1 with q1; subst q1; exact q2
  have hvs : vs = #[.pointer (some ⟨b, 0, none⟩)] := by
    apply Array.ext (by simpa using hsz)
    intro i i1 i2
    simp at i2; subst i2
    rw [Array.getElem?_eq_getElem i1] at hv
    injection hv with hv; rw [hv, hvp]; rfl
  have h5 : ms.size = 2 := h5
  have hm0 : ms[0]? = some (.pointer none) := by
    have h0 : 0 < ms.size := by omega
    have := (h6 0 ms[0] _ (Array.getElem?_eq_getElem h0) rfl).bool
    rw [Array.getElem?_eq_getElem h0, this]
  have hm1 : ms[1]? = some (.slice none 0 0) := by
    have h0 : 1 < ms.size := by omega
    have := (h6 1 ms[1] _ (Array.getElem?_eq_getElem h0) rfl).bool
    rw [Array.getElem?_eq_getElem h0, this]
  have hb : b < w.heap.size := (Array.getElem?_eq_some_iff.1 h4).1
  have hc : w.cell? ⟨b, 0, none⟩ = some (.pointer none) := by rw [Lib.cell_of_heap h4]; exact hm0
  have hsh : w.shape? b = some (T, 2) := by
    have h4' : w.heap[b]? = some (.cells ms T (0, 0)) := h4
    simp [World.shape?, h4', h5]
  have hfz : w.frozen? ⟨b, 0, none⟩ = false := by
    have h4' : w.heap[b]? = some (.cells ms T (0, 0)) := h4
    simp [World.frozen?, h4']
  rw [hvs]
  refine (copyCheck_fresh T hT b w hc hsh hfz).mono fun e w' ⟨he, hw⟩ => ?_
  subst he
  have hset : w'.heap[b]? = some (.cells (ms.setIfInBounds 0 (.pointer (some ⟨b, 0, none⟩))) T (0, 0)) := by
    have h4' : w.heap[b]? = some (.cells ms T (0, 0)) := h4
    subst hw
    simp [World.setCell, Array.getElem?_modify, h4']
  have hoth : ∀ k, k ≠ b → w'.heap[k]? = w.heap[k]? := fun k hk => by
    subst hw; exact Below.heap_setCell w ⟨b, 0, none⟩ _ k hk
  have hws : w'.heap.size = w.heap.size := by subst hw; simp [World.setCell]
  have hwo : w'.os = w.os ∧ w'.tape = w.tape ∧ w'.output = w.output := by subst hw; exact ⟨rfl, rfl, rfl⟩
  clear hw
  have hbT : TIn ρ [(9000, some (.tvar T zB))] b := ⟨9000, _, l, rfl, hl, by simp [Loc.fp, h3]⟩
  have hlfp : l.fp = [b] := by simp [Loc.fp, h3, h2]
  let lb : Loc := { blk := none, isBuf := true, sz := 1 }
  have e1 : upd ρ 9001 (some lb) 9000 = some l := by rw [upd_ne _ _ (by decide)]; exact hl
  have e2 : upd ρ 9001 (some lb) 9001 = some lb := upd_same ..
  refine ⟨.tup [], _, Im, upd ρ 9001 (some lb), rfl, ra_tup0, fun r hr => by simp [AV.ment, AV.ment.mentL] at hr, ?_⟩
  refine ⟨⟨by omega, hwo.1, hwo.2.1, hwo.2.2, fun k hk hn => hoth k fun h => hn (by subst h; exact hbT)⟩, fun k hk => hk, fun k hk => ⟨by rw [hws]; exact hIm k hk, .inl hk⟩, ⟨fun r o hr => ?_, fun r r' o o' l1 l2 q1 q2 hne p1 p2 k hk hk' => ?_⟩, fun r o hr l' hl' => ?_, fun r o hr => ?_⟩
  · rcases lkH_two hr with ⟨rfl, rfl⟩ | ⟨rfl, rfl⟩
    · refine ⟨l, e1, ⟨h1, h2, b, _, T, h3, hset, by simp [h5], fun i u hu x hx => ?_⟩, fun k hk => ?_⟩
      · match i, hx with
        | 0, hx =>
          have hu : u = .pointer (some ⟨b, 0, none⟩) := by
            have : 0 < ms.size := by omega
            simpa [Array.getElem?_setIfInBounds, this] using hu.symm
          simp at hx; subst hx; subst hu
          exact ⟨.ptr _ _ _ rfl fun l' hl' => by rw [e1] at hl'; injection hl' with hl'; subst hl'; exact ⟨h1, b, h3, rfl⟩, rfl⟩
        | 1, hx =>
          have hu : u = .slice none 0 0 := by
            rw [Array.getElem?_setIfInBounds_ne (by decide), hm1] at hu
            injection hu with hu; exact hu.symm
          simp at hx; subst hx; subst hu
          exact ⟨.msl _ _ _ _ _ rfl fun l' hl' => by rw [e2] at hl'; injection hl' with hl'; subst hl'; exact ⟨by simp [lb], fun _ => rfl⟩, rfl⟩
        | n + 2, hx => simp at hx
      · rw [hlfp] at hk; simp at hk; subst hk
        exact ⟨by omega, (hown k (by rw [hlfp]; simp)).2.1, .inr hbT⟩
    · exact ⟨lb, e2, ⟨rfl, rfl, rfl, rfl, by simp, .inl ⟨rfl, rfl, rfl⟩⟩, by simp [lb, Loc.fp]⟩
  · rcases lkH_two q1 with ⟨rfl, rfl⟩ | ⟨rfl, rfl⟩
    · rcases lkH_two q2 with ⟨rfl, rfl⟩ | ⟨rfl, rfl⟩
      · exact hne rfl
      · rw [e2] at p2; injection p2 with p2; subst p2; simp [lb, Loc.fp] at hk'
    · rw [e2] at p1; injection p1 with p1; subst p1; simp [lb, Loc.fp] at hk
  · obtain ⟨rfl, rfl⟩ := lkH_one hr
    rw [e1] at hl'; injection hl' with hl'; subst hl'
    exact ⟨l, hl, .inl rfl⟩
  · rcases lkH_two hr with ⟨rfl, rfl⟩ | ⟨rfl, rfl⟩
    · intro q hq
      simp [AObj.ment, AV.ment.mentL, AV.ment] at hq
      rcases hq with rfl | rfl <;> rfl
    · intro q hq; simp [AObj.ment] at hq
end Go.Ax
namespace Go.Ax
open Go.Proofs Go.RowKit Go.Shelf
set_option maxRecDepth 10000
theorem CallP.two {E : Env} {k : Kn} {f : FuncId} {args : List AV} {s : St} {K : AV → HL → Prop} {KP : List PanicEntry → HL → Prop} {res : AV} {r1 r2 : Nat} {o1 o2 o1' o2' : AObj} (h1 : lkH r1 s.h = some o1) (h2 : lkH r2 s.h = some o2)
    (h : Ctr E f args [(r1, some o1), (r2, some o2)] fun o => o = .ret res [(r1, some o1'), (r2, some o2')]) (hk : K res ((r1, some o1') :: (r2, some o2') :: (r1, none) :: (r2, none) :: s.h)) : CallP E k f args s K KP :=
  ⟨_, _, h, fun r o hr => by rcases lkH_two hr with ⟨rfl, rfl⟩ | ⟨rfl, rfl⟩; exact h1; exact h2, fun res' ho e => by
    injection e with e1 e2; subst e1; subst e2
    refine ⟨fun r o hr => .inl ?_, hk⟩
    rcases lkH_two hr with ⟨rfl, rfl⟩ | ⟨rfl, rfl⟩
    · exact ⟨o1, by simp [lkH]⟩
    · by_cases hr : r1 = r
      · subst hr; exact ⟨o1, by simp [lkH]⟩
      · have : Nat.beq r1 r = false := by
          cases hb : Nat.beq r1 r with
          | false => rfl
          | true => exact absurd (Nat.eq_of_beq_eq_true hb) hr
        exact ⟨o2, by simp [lkH, this]⟩, fun ch ho e => by simp at e⟩
theorem CallP.oneTwo {E : Env} {k : Kn} {f : FuncId} {args : List AV} {s : St} {K : AV → HL → Prop} {KP : List PanicEntry → HL → Prop} {res : AV} {r1 r2 : Nat} {o1 o1' o2' : AObj} (h1 : lkH r1 s.h = some o1) (h2 : unmB k.anc r2 s = true)
    (h : Ctr E f args [(r1, some o1)] fun o => o = .ret res [(r1, some o1'), (r2, some o2')]) (hk : K res ((r1, some o1') :: (r2, some o2') :: (r1, none) :: s.h)) : CallP E k f args s K KP :=
  ⟨_, _, h, fun r o hr => by obtain ⟨rfl, rfl⟩ := lkH_one hr; exact h1, fun res' ho e => by
    injection e with e1 e2; subst e1; subst e2
    refine ⟨fun r o hr => ?_, hk⟩
    rcases lkH_two hr with ⟨rfl, rfl⟩ | ⟨rfl, rfl⟩
    · exact .inl ⟨o1, by simp [lkH]⟩
    · exact .inr h2, fun ch ho e => by simp at e⟩
theorem bsRow_app (a b : ByteArray) : bsRow (a ++ b) = bsRow a ++ bsRow b := by simp [bsRow, ByteArray.data_append]
abbrev bbuf (bs : ByteArray) : AObj := .buf 1 5 (bsRow bs)
theorem writeUsed_ctr (g : GP) (bs s : ByteArray) (hs : bs.size + s.size ≤ 140737488355328) : Ctr (ax g).E 34 [.ptr 9000 0, .str s] [(9000, some (bvar bs.size)), (9001, some (bbuf bs))] (fun o => o = .ret (.tup [.i64 s.size, .d (.v .nilIface)]) [(9000, some (bvar (bs ++ s).size)), (9001, some (bbuf (bs ++ s)))]) := by
  refine Ctr.body (X := ax g) _ 19 [9000, 9001] [.tmp 4, .tmp 5] Tryd.func34 rfl rfl rfl rfl (by decide +kernel) rfl rfl ?_
  conv => whnf
  refine CallP.two rfl rfl (checkUsed_ctr g bs.size (bsRow bs)) ?_
  conv => whnf
  refine And.intro rfl ?_
  refine And.intro (bsRow_len bs).symm ?_
  refine And.intro (by rw [bsRow_len]; exact hs) ?_
  conv => whnf
  refine ⟨⟨[(9000, some (bvar (bs ++ s).size)), (9001, some (bbuf (bs ++ s)))], ?_⟩⟩
  conv => whnf
  refine And.intro ⟨fun o h => ?_, fun o h => ?_, trivial⟩ ?_
  · rw [← h]
    show some (AObj.var [.ptr 9000 0, .msl 9001 ((bsRow bs).length + s.size) 0 ((bsRow bs).length + s.size)]) = some (bvar (bs ++ s).size)
    rw [bsRow_len, ByteArray.size_append]
  · rw [← h]
    show some (AObj.buf 1 5 (bsRow bs ++ bsRow s)) = some (bbuf (bs ++ s))
    rw [← bsRow_app]
  · rfl
theorem writeFresh_ctr (g : GP) (T : TypeId) (hT : BldT T) (s : ByteArray) (hs : s.size ≤ 140737488355328) : Ctr (ax g).E 34 [.ptr 9000 0, .str s] [(9000, some (.tvar T zB))] (fun o => o = .ret (.tup [.i64 s.size, .d (.v .nilIface)]) [(9000, some (bvar s.size)), (9001, some (bbuf s))]) := by
  refine Ctr.body (X := ax g) _ 19 [9000] [.tmp 4, .tmp 5] Tryd.func34 rfl rfl rfl rfl (by decide +kernel) rfl rfl ?_
  conv => whnf
  refine CallP.oneTwo rfl rfl (checkFresh_ctr g T hT) ?_
  conv => whnf
  refine And.intro rfl ?_
  refine And.intro rfl ?_
  refine And.intro (by show 0 + s.size ≤ _; omega) ?_
  conv => whnf
  refine ⟨⟨[(9000, some (bvar s.size)), (9001, some (bbuf s))], ?_⟩⟩
  conv => whnf
  refine And.intro ⟨fun o h => ?_, fun o h => h, trivial⟩ ?_
  · rw [← h]
    show some (AObj.var [.ptr 9000 0, .msl 9001 (0 + s.size) 0 (0 + s.size)]) = some (bvar s.size)
    rw [Nat.zero_add]
  · rfl
def oneB (b : UInt8) : ByteArray := ⟨#[b]⟩
theorem byteUsed_ctr (g : GP) (bs : ByteArray) (b : UInt8) (hs : bs.size + 1 ≤ 140737488355328) : Ctr (ax g).E 65 [.ptr 9000 0, .d (.v (.int .u8 b.toNat))] [(9000, some (bvar bs.size)), (9001, some (bbuf bs))] (fun o => o = .ret (.d (.v .nilIface)) [(9000, some (bvar (bs ++ oneB b).size)), (9001, some (bbuf (bs ++ oneB b)))]) := by
  refine Ctr.body (X := ax g) _ 17 [9000, 9001] [.tmp 4] Tryd.func65 rfl rfl rfl rfl (by decide +kernel) rfl rfl ?_
  conv => whnf
  refine CallP.two rfl rfl (checkUsed_ctr g bs.size (bsRow bs)) ?_
  conv => whnf
  repeat (refine And.intro (by first | exact rfl | decide | exact Nat.le_of_ble_eq_true rfl | exact ⟨_, rfl⟩ | exact ⟨_, _, rfl⟩ | omega | (simp only [List.length_map]; omega)) ?_; conv => whnf)
  refine And.intro (bsRow_len bs).symm ?_
  refine And.intro rfl ?_
  refine And.intro (by show ((bsRow bs).length + 1) * 1 ≤ _; rw [bsRow_len]; omega) ?_
  conv => whnf
  refine ⟨⟨[(9000, some (bvar (bs ++ oneB b).size)), (9001, some (bbuf (bs ++ oneB b)))], ?_⟩⟩
  conv => whnf
  refine And.intro ⟨fun o h => ?_, fun o h => ?_, trivial⟩ ?_
  · rw [← h]
    show some (AObj.var [.ptr 9000 0, .msl 9001 ((bsRow bs).length + 1) 0 ((bsRow bs).length + 1)]) = some (bvar (bs ++ oneB b).size)
    rw [bsRow_len, ByteArray.size_append]; rfl
  · rw [← h]
    show some (AObj.buf 1 5 (bsRow bs ++ bsRow (oneB b))) = some (bbuf (bs ++ oneB b))
    rw [← bsRow_app]
  · rfl
theorem byteFresh_ctr (g : GP) (T : TypeId) (hT : BldT T) (b : UInt8) : Ctr (ax g).E 65 [.ptr 9000 0, .d (.v (.int .u8 b.toNat))] [(9000, some (.tvar T zB))] (fun o => o = .ret (.d (.v .nilIface)) [(9000, some (bvar (oneB b).size)), (9001, some (bbuf (oneB b)))]) := by
  refine Ctr.body (X := ax g) _ 17 [9000] [.tmp 4] Tryd.func65 rfl rfl rfl rfl (by decide +kernel) rfl rfl ?_
  conv => whnf
  refine CallP.oneTwo rfl rfl (checkFresh_ctr g T hT) ?_
  conv => whnf
  repeat (refine And.intro (by first | exact rfl | decide | exact Nat.le_of_ble_eq_true rfl | exact ⟨_, rfl⟩ | exact ⟨_, _, rfl⟩ | omega | (simp only [List.length_map]; omega)) ?_; conv => whnf)
  refine ⟨⟨[(9000, some (bvar (oneB b).size)), (9001, some (bbuf (oneB b)))], ?_⟩⟩
  conv => whnf
  refine And.intro ⟨fun o h => h, fun o h => h, trivial⟩ ?_
  rfl
set_option maxHeartbeats 2000000 in
set_option maxRecDepth 100000 in
theorem string_used (b g cap : Nat) (p : Value) (cur : Array Value) (T : TypeId) (l : List UInt8) (w : World) (hb : w.heap[b]? = some (.cells #[p, .slice (some ⟨g, 0, none⟩) l.length cap] T (0, 0))) (hg : w.heap[g]? = some (.cells cur 5 (0, 0)))
    (hcell : ∀ (j : Nat) (x : UInt8), l[j]? = some x → cur[j]? = some (.int .u8 x.toNat)) (h0 : l ≠ []) (hle : l.length ≤ cap) (hcur : cur.size = cap) (h63 : cap ≤ maxLen) :
    Calls Tryd.prog 38 #[.pointer (some ⟨b, 0, none⟩)] w fun e w' => e = .returned (.string ⟨l.toArray⟩) ∧ w' = w.drew.freeze ⟨g, 0, none⟩ l.length := by
  have hl0 : 0 < l.length := List.length_pos_iff.2 h0
  have c1 : w.drew.cell? ⟨b, 1, none⟩ = some (.slice (some ⟨g, 0, none⟩) l.length cap) := by
    have : w.drew.heap[b]? = some (.cells #[p, .slice (some ⟨g, 0, none⟩) l.length cap] T (0, 0)) := hb
    rw [Lib.cell_of_heap this]; rfl
  have hSD : (Builtin.unsafeSliceData_ #[81] 131 #[.slice (some ⟨g, 0, none⟩) l.length cap]).run Tryd.prog w.drew = .ok (.pointer (some ⟨g, 0, none⟩)) w.drew :=
    Lib.run_unsafeSliceData_row _ _ _ _ _ _ (by omega)
  have hg' : w.drew.heap[g]? = some (.cells cur 5 (0, 0)) := hg
  have hUS : (Builtin.unsafeString_ #[131, 3] 9 #[.pointer (some ⟨g, 0, none⟩), .int .i64 l.length]).run Tryd.prog w.drew = .ok (.string ⟨l.toArray⟩) (w.drew.freeze ⟨g, 0, none⟩ l.length) := by
    refine Lib.run_unsafeString_row w.drew 131 3 9 5 Tryd.underlying131 (by kernel_rfl) g cur.size (by simp [World.shape?, hg']) l h0 (by omega) (by unfold maxLen at h63; omega) ?_
    intro j x hx
    have : ((⟨g, 0, none⟩ : Addr).add j) = ⟨g, j, none⟩ := by unfold Addr.add; split <;> simp_all
    rw [this, Lib.cell_of_heap hg']
    exact hcell j x hx
  have mixed := Tryd.mixed
  go_enter Tryd.func38, Tryd.ntmps38
  go_wp2
  go_region_o
  all_goals (go_wp2; go_ret; exact ⟨rfl, rfl⟩)
set_option maxHeartbeats 2000000 in
set_option maxRecDepth 100000 in
theorem string_fresh (b : Nat) (p : Value) (T : TypeId) (w : World) (hb : w.heap[b]? = some (.cells #[p, .slice none 0 0] T (0, 0))) :
    Calls Tryd.prog 38 #[.pointer (some ⟨b, 0, none⟩)] w fun e w' => e = .returned (.string ⟨#[]⟩) ∧ w' = w.drew := by
  have c1 : w.drew.cell? ⟨b, 1, none⟩ = some (.slice none 0 0) := by
    have : w.drew.heap[b]? = some (.cells #[p, .slice none 0 0] T (0, 0)) := hb
    rw [Lib.cell_of_heap this]; rfl
  have hSD : (Builtin.unsafeSliceData_ #[81] 131 #[.slice none 0 0]).run Tryd.prog w.drew = .ok (.pointer none) w.drew := rfl
  have hUS : ∀ W, (Builtin.unsafeString_ #[131, 3] 9 #[.pointer none, .int .i64 0]).run Tryd.prog W = .ok (.string .empty) W := fun W => Lib.run_unsafeString_none W _ _ _ none
  have mixed := Tryd.mixed
  go_enter Tryd.func38, Tryd.ntmps38
  go_wp2
  go_region_o
  all_goals (go_wp2; go_ret; exact ⟨rfl, rfl⟩)
theorem two_cells {ms : Array Value} {x y : Value} (h : ms.size = 2) (h0 : ms[0]? = some x) (h1 : ms[1]? = some y) : ms = #[x, y] := by
  apply Array.ext (by simpa using h)
  intro i i1 i2
  match i, i2 with
  | 0, _ => exact Option.some.inj ((Array.getElem?_eq_getElem i1).symm.trans h0)
  | 1, _ => exact Option.some.inj ((Array.getElem?_eq_getElem i1).symm.trans h1)
theorem stringFresh_ctr (g : GP) (T : TypeId) : Ctr (ax g).E 38 [.ptr 9000 0] [(9000, some (.tvar T zB))] (fun o => o = .ret (.str ⟨#[]⟩) []) := by
  refine ⟨⟨_, Tryd.func38, rfl, by decide +kernel⟩, fun w Im ρ vs hG hIm hgl hsz hra hrel => ?_⟩
  obtain ⟨l, hl, hro, hown⟩ := hrel.obj 9000 (.tvar T zB) rfl
  obtain ⟨v, hv, hr⟩ := ra_arg0 hsz hra (i := 0) rfl
  obtain ⟨h1, h2, b, ms, h3, h4, h5, h6⟩ := hro
  have hvp : v = .pointer (some ⟨b, 0, none⟩) := by
    cases hr with
    | ptr _ _ _ _ hp =>
      obtain ⟨_, b', q1, q2⟩ := hp l hl
      rw [h3] at q1; injection q1 with q1; subst q1; exact q2
  have hvs : vs = #[.pointer (some ⟨b, 0, none⟩)] := by
    apply Array.ext (by simpa using hsz)
    intro i i1 i2
    simp at i2; subst i2
    rw [Array.getElem?_eq_getElem i1] at hv
    injection hv with hv; rw [hv, hvp]; rfl
  have h5 : ms.size = 2 := h5
  have hm0 : ms[0]? = some (.pointer none) := by
    have h0 : 0 < ms.size := by omega
    have := (h6 0 ms[0] _ (Array.getElem?_eq_getElem h0) rfl).bool
    rw [Array.getElem?_eq_getElem h0, this]
  have hm1 : ms[1]? = some (.slice none 0 0) := by
    have h0 : 1 < ms.size := by omega
    have := (h6 1 ms[1] _ (Array.getElem?_eq_getElem h0) rfl).bool
    rw [Array.getElem?_eq_getElem h0, this]
  rw [hvs]
  refine (string_fresh b _ T w (by rw [← two_cells h5 hm0 hm1]; exact h4)).mono fun e w' ⟨he, hw⟩ => ?_
  subst he; subst hw
  exact ⟨_, [], Im, fun _ => none, rfl, RA.intv _ rfl, fun r hr => by simp [AV.ment] at hr, ⟨Grows.drew w _, fun b hb => hb, fun b hb => ⟨hIm b hb, .inl hb⟩, ⟨fun r o hr => by simp [lkH] at hr, fun r r' o o' l l' hr => by simp [lkH] at hr⟩, fun r o hr l' hl' => by simp at hl', fun r o hr => by simp [lkH] at hr⟩⟩
theorem stringUsed_ctr (g : GP) (bs : ByteArray) (hne : bs.size ≠ 0) : Ctr (ax g).E 38 [.ptr 9000 0] [(9000, some (bvar bs.size)), (9001, some (bbuf bs))] (fun o => o = .ret (.str bs) []) := by
  refine ⟨⟨_, Tryd.func38, rfl, by decide +kernel⟩, fun w Im ρ vs hG hIm hgl hsz hra hrel => ?_⟩
  obtain ⟨l, hl, hro, hown⟩ := hrel.obj 9000 (bvar bs.size) rfl
  obtain ⟨l2, hl2, hro2, hown2⟩ := hrel.obj 9001 (bbuf bs) rfl
  obtain ⟨v, hv, hr⟩ := ra_arg0 hsz hra (i := 0) rfl
  obtain ⟨h1, h2, b, ms, T, h3, h4, h5, h6⟩ := hro
  have hvp : v = .pointer (some ⟨b, 0, none⟩) := by
    cases hr with
    | ptr _ _ _ _ hp =>
      obtain ⟨_, b', q1, q2⟩ := hp l hl
      rw [h3] at q1; injection q1 with q1; subst q1; exact q2
  have hvs : vs = #[.pointer (some ⟨b, 0, none⟩)] := by
    apply Array.ext (by simpa using hsz)
    intro i i1 i2
    simp at i2; subst i2
    rw [Array.getElem?_eq_getElem i1] at hv
    injection hv with hv; rw [hv, hvp]; rfl
  have h5 : ms.size = 2 := h5
  have hlen : l2.len = (bsRow bs).length := hro2.2.2.2.1
  have hsub := hro2.sub_eq
  rcases hro2.2.2.2.2.2 with ⟨_, q2, _⟩ | ⟨q, cur, q1, q2, q3, q4, q5, q6⟩
  · exact absurd (by rw [← bsRow_len, q2]; rfl) hne
  · obtain ⟨u, hu⟩ : ∃ u, ms[1]? = some u := ⟨_, Array.getElem?_eq_getElem (by omega)⟩
    obtain ⟨p, hp0⟩ : ∃ p, ms[0]? = some p := ⟨_, Array.getElem?_eq_getElem (by omega)⟩
    have hm1 : u = .slice (some ⟨q, 0, none⟩) bs.size l2.cap := by
      obtain ⟨r1, _⟩ := h6 1 u hu _ rfl
      cases r1 with
      | msl _ _ _ _ _ _ hp =>
        have := (hp l2 hl2).2 (by rw [hlen, bsRow_len])
        rw [bsRow_len] at hsub
        rw [this, hsub]; simp [Loc.addr, q1]
    have hlb : bs.data.toList.length = bs.size := by rw [Array.length_toList]; rfl
    have hb : w.heap[b]? = some (.cells #[p, .slice (some ⟨q, 0, none⟩) bs.data.toList.length l2.cap] T (0, 0)) := by
      rw [hlb, ← hm1, ← two_cells h5 hp0 hu]; exact h4
    rw [bsRow_len] at q3
    have hcell : ∀ (j : Nat) (x : UInt8), bs.data.toList[j]? = some x → cur[j]? = some (.int .u8 x.toNat) := fun j x hx => by
      obtain ⟨u, k1, k2⟩ := q6 j 0 [.v (.int .u8 x.toNat)] (.v (.int .u8 x.toNat)) (by simp only [bsRow, List.getElem?_map, hx]; rfl) rfl
      rw [Nat.mul_one, Nat.add_zero] at k1
      rw [k1, k2.bool]
    rw [hvs]
    refine (string_used b q l2.cap p cur T bs.data.toList w hb q2 hcell (fun e => hne (by rw [← hlb, e]; rfl)) (by rw [hlb]; exact q3) (by rw [q5, Nat.mul_one]) q4).mono fun e w' ⟨he, hw⟩ => ?_
    subst he; subst hw
    have hbs : (⟨bs.data.toList.toArray⟩ : ByteArray) = bs := by simp
    rw [hbs]
    have hT : TIn ρ [(9000, some (bvar bs.size)), (9001, some (bbuf bs))] q := ⟨9001, _, l2, rfl, hl2, by simp [Loc.fp, q1]⟩
    have hgr : Grows w (w.drew.freeze ⟨q, 0, none⟩ bs.data.toList.length) (TIn ρ [(9000, some (bvar bs.size)), (9001, some (bbuf bs))]) := by
      unfold World.freeze
      split
      · exact Grows.drew w _
      · refine ⟨by simp, rfl, rfl, rfl, fun k hk hn => ?_⟩
        simp only [Array.getElem?_modify]
        rw [if_neg (fun h => hn (by have h : q = k := h; rw [← h]; exact hT))]; rfl
    exact ⟨_, [], Im, fun _ => none, rfl, RA.intv _ rfl, fun r hr => by simp [AV.ment] at hr, ⟨hgr, fun b hb => hb, fun b hb => ⟨Nat.lt_of_lt_of_le (hIm b hb) hgr.size, .inl hb⟩, ⟨fun r o hr => by simp [lkH] at hr, fun r r' o o' l l' hr => by simp [lkH] at hr⟩, fun r o hr l' hl' => by simp at hl', fun r o hr => by simp [lkH] at hr⟩⟩
end Go.Ax
namespace Go.Ax
open Go.Proofs Go.RowKit Go.Shelf
set_option maxRecDepth 10000
theorem bbuf_any {h : Nat → Option Obj} {Im Im' : Nat → Prop} {ρ ρ' : Nat → Option Loc} {lb : Loc} {bs : ByteArray} (H : RO h Im ρ lb (bbuf bs)) : RO h Im' ρ' lb (bbuf bs) := by
  obtain ⟨h0, h1, h2, h3, h4, h5⟩ := H
  refine ⟨h0, h1, h2, h3, h4, ?_⟩
  rcases h5 with h5 | ⟨b, ms, g1, g2, g3, g4, g5, g6⟩
  · exact .inl h5
  · refine .inr ⟨b, ms, g1, g2, g3, g4, g5, fun i j el x e1 e2 => ?_⟩
    obtain ⟨v, k1, k2⟩ := g6 i j el x e1 e2
    refine ⟨v, k1, ?_⟩
    simp only [bsRow, List.getElem?_map, Option.map_eq_some_iff] at e1
    obtain ⟨y, _, rfl⟩ := e1
    match j, e2 with
    | 0, e2 => injection e2 with e2; subst e2; rw [k2.bool]; exact .v _ rfl
    | n + 1, e2 => simp at e2
def Bld (bs : ByteArray) (l : Loc) (h : Nat → Option Obj) : Prop :=
  ∃ b T ms, l.blk = some b ∧ h b = some (.cells ms T (0, 0)) ∧ ms.size = 2 ∧
    ((bs.size = 0 ∧ BldT T ∧ l.more = [] ∧ ms[0]? = some (.pointer none) ∧ ms[1]? = some (.slice none 0 0)) ∨
     (bs.size ≠ 0 ∧ ms[0]? = some (.pointer (some ⟨b, 0, none⟩)) ∧ ∃ lb : Loc, l.more = lb.fp ∧ b ∉ lb.fp ∧ ms[1]? = some (lb.sub 0 bs.size) ∧ RO h (fun _ => False) (fun _ => none) lb (bbuf bs)))
theorem Bld.keep {bs : ByteArray} {l : Loc} (h h' : Nat → Option Obj) (hh : ∀ b ∈ l.fp, h' b = h b) (H : Bld bs l h) : Bld bs l h' := by
  obtain ⟨b, T, ms, h1, h2, h3, h4⟩ := H
  refine ⟨b, T, ms, h1, by rw [hh b (by simp [Loc.fp, h1])]; exact h2, h3, ?_⟩
  rcases h4 with h4 | ⟨h4, h5, lb, h6, h7, h8, h9⟩
  · exact .inl h4
  · exact .inr ⟨h4, h5, lb, h6, h7, h8, RO.mono (fun _ h => h) (fun _ h => h.elim) (fun k hk => hh k (List.mem_append.2 (.inr (by rw [h6]; exact hk)))) (fun r hr => by simp [AObj.ment] at hr) h9⟩
abbrev bldO (bs : ByteArray) : AObj := .ext (Bld bs)
theorem open_bld {w : World} {Im : Nat → Prop} {ρ : Nat → Option Loc} {A : Nat → Prop} {bs : ByteArray} (H : HRel w Im ρ [(9000, some (bldO bs))] A) :
    (bs.size = 0 ∧ ∃ T, BldT T ∧ HRel w Im ρ [(9000, some (.tvar T zB))] A) ∨
    (bs.size ≠ 0 ∧ ∃ l lb, ρ 9000 = some l ∧ l.isBuf = false ∧ l.more = lb.fp ∧ HRel w Im (upd (upd ρ 9000 (some { l with more := [] })) 9001 (some lb)) [(9000, some (bvar bs.size)), (9001, some (bbuf bs))] A) := by
  obtain ⟨l, hl, hro, hf⟩ := H.obj 9000 (bldO bs) rfl
  obtain ⟨h1, -, -, b, T, ms, q1, q2, q3, q4⟩ := hro
  rcases q4 with ⟨q4, q5, q6, q7, q8⟩ | ⟨q4, q5, lb, q6, q7, q8, q9⟩
  · refine .inl ⟨q4, T, q5, fun r o hr => ?_, fun r r' o o' l l' hr hr' hne => ?_⟩
    · obtain ⟨rfl, rfl⟩ := lkH_one hr
      refine ⟨l, hl, ⟨h1, q6, b, ms, q1, q2, q3, fun i v x e1 e2 => ?_⟩, hf⟩
      match i, e2 with
      | 0, e2 => injection e2 with e2; subst e2; rw [q7] at e1; injection e1 with e1; subst e1; exact .v _ rfl
      | 1, e2 => injection e2 with e2; subst e2; rw [q8] at e1; injection e1 with e1; subst e1; exact .v _ rfl
      | n + 2, e2 => simp [zB] at e2
    · exact absurd ((lkH_one hr).1.trans (lkH_one hr').1.symm) hne
  · refine .inr ⟨q4, l, lb, hl, h1, q6, ?_⟩
    have e1 : upd (upd ρ 9000 (some { l with more := [] })) 9001 (some lb) 9000 = some { l with more := [] } := by rw [upd_ne _ _ (by decide), upd_same]
    have e2 : upd (upd ρ 9000 (some { l with more := [] })) 9001 (some lb) 9001 = some lb := upd_same ..
    have hfp : ∀ k, k ∈ Loc.fp { l with more := [] } → k = b := fun k hk => by simpa [Loc.fp, q1] using hk
    refine ⟨fun r o hr => ?_, fun r r' o o' l1 l2 p1 p2 hne p3 p4 k hk hk' => ?_⟩
    · rcases lkH_two hr with ⟨rfl, rfl⟩ | ⟨rfl, rfl⟩
      · refine ⟨_, e1, ⟨h1, rfl, b, ms, T, q1, q2, q3, fun i u hu x hx => ?_⟩, fun k hk => hf k ?_⟩
        · match i, hx with
          | 0, hx =>
            injection hx with hx; subst hx
            rw [q5] at hu; injection hu with hu; subst hu
            exact ⟨.ptr _ _ _ rfl fun l' hl' => by rw [e1] at hl'; injection hl' with hl'; subst hl'; exact ⟨h1, b, q1, rfl⟩, rfl⟩
          | 1, hx =>
            injection hx with hx; subst hx
            rw [q8] at hu; injection hu with hu; subst hu
            have hlen : lb.len = bs.size := by rw [q9.2.2.2.1, bsRow_len]
            have hone : (lb.sub 0 bs.size).oneCell' = true := by
              unfold Loc.sub; split <;> rfl
            exact ⟨.msl _ _ _ _ _ hone fun l' hl' => by rw [e2] at hl'; injection hl' with hl'; subst hl'; exact ⟨by omega, fun _ => rfl⟩, hone⟩
          | n + 2, hx => simp at hx
        · rw [hfp k hk]; simp [Loc.fp, q1]
      · exact ⟨_, e2, bbuf_any q9, fun k hk => hf k (List.mem_append.2 (.inr (by rw [q6]; exact hk)))⟩
    · rcases lkH_two p1 with ⟨rfl, rfl⟩ | ⟨rfl, rfl⟩
      · rcases lkH_two p2 with ⟨rfl, rfl⟩ | ⟨rfl, rfl⟩
        · exact hne rfl
        · rw [e1] at p3; injection p3 with p3; subst p3
          rw [e2] at p4; injection p4 with p4; subst p4
          rw [hfp k hk] at hk'; exact q7 hk'
      · rcases lkH_two p2 with ⟨rfl, rfl⟩ | ⟨rfl, rfl⟩
        · rw [e2] at p3; injection p3 with p3; subst p3
          rw [e1] at p4; injection p4 with p4; subst p4
          rw [hfp k hk'] at hk; exact q7 hk
        · exact hne rfl
theorem tin_bld {ρ : Nat → Option Loc} {bs : ByteArray} {l lb : Loc} (hl : ρ 9000 = some l) (hm : l.more = lb.fp) {k : Nat} (H : TIn (upd (upd ρ 9000 (some { l with more := [] })) 9001 (some lb)) [(9000, some (bvar bs.size)), (9001, some (bbuf bs))] k) : TIn ρ [(9000, some (bldO bs))] k := by
  have e1 : upd (upd ρ 9000 (some { l with more := [] })) 9001 (some lb) 9000 = some { l with more := [] } := by rw [upd_ne _ _ (by decide), upd_same]
  have e2 : upd (upd ρ 9000 (some { l with more := [] })) 9001 (some lb) 9001 = some lb := upd_same ..
  obtain ⟨r, o, l', hr, h1, h2⟩ := H
  refine ⟨9000, bldO bs, l, rfl, hl, ?_⟩
  rcases lkH_two hr with ⟨rfl, rfl⟩ | ⟨rfl, rfl⟩
  · rw [e1] at h1; injection h1 with h1; subst h1
    simp only [Loc.fp, List.append_nil] at h2
    simp only [Loc.fp, List.mem_append]; exact .inl h2
  · rw [e2] at h1; injection h1 with h1; subst h1
    simp only [Loc.fp, List.mem_append]; rw [hm]; exact .inr h2
theorem close_bld {w w' : World} {Im Im' : Nat → Prop} {ρ ρ0 ρ' : Nat → Option Loc} {hin hin0 : HL} {bs2 : ByteArray} (hne : bs2.size ≠ 0) (hT : ∀ k, TIn ρ0 hin0 k → TIn ρ hin k)
    (hst : ∀ l', ρ0 9000 = some l' → ∃ l, ρ 9000 = some l ∧ l.isBuf = false ∧ ∃ m, l' = { l with more := m }) (h9 : ∃ o, lkH 9000 hin0 = some o) (hone : ∀ r o, lkH r hin = some o → r = 9000)
    (H : After w Im ρ0 hin0 w' Im' ρ' [(9000, some (bvar bs2.size)), (9001, some (bbuf bs2))]) : ∃ ρ3, After w Im ρ hin w' Im' ρ3 [(9000, some (bldO bs2))] := by
  obtain ⟨l2, hl2, hro2, hf2⟩ := H.rel.obj 9000 (bvar bs2.size) rfl
  obtain ⟨lb, hlb, hrob, hfb⟩ := H.rel.obj 9001 (bbuf bs2) rfl
  obtain ⟨o9, h9⟩ := h9
  obtain ⟨l0, q1, q2⟩ := H.anc 9000 o9 h9 l2 hl2
  obtain ⟨l, q3, q4, m, q5⟩ := hst l0 q1
  obtain ⟨r1, r2, b, ms, T, r3, r4, r5, r6⟩ := hro2
  have hms : ms.size = 2 := r5
  have hmore : ∃ m, ({ l2 with more := lb.fp } : Loc) = { l with more := m } := by
    subst q5
    rcases q2 with rfl | ⟨q2, _⟩ | ⟨_, m', rfl⟩
    · exact ⟨_, rfl⟩
    · rw [show Loc.isBuf { l with more := m } = l.isBuf from rfl, q4] at q2; exact absurd q2 (by simp)
    · exact ⟨_, rfl⟩
  have hm0 : ms[0]? = some (.pointer (some ⟨b, 0, none⟩)) := by
    obtain ⟨u, hu⟩ : ∃ u, ms[0]? = some u := ⟨_, Array.getElem?_eq_getElem (by omega)⟩
    obtain ⟨k1, _⟩ := r6 0 u hu (.ptr 9000 0) rfl
    rw [hu]
    cases k1 with
    | ptr _ _ _ _ hp =>
      obtain ⟨_, b', p1, p2⟩ := hp l2 hl2
      rw [r3] at p1; injection p1 with p1; subst p1; rw [p2]
  have hm1 : ms[1]? = some (lb.sub 0 bs2.size) := by
    obtain ⟨u, hu⟩ : ∃ u, ms[1]? = some u := ⟨_, Array.getElem?_eq_getElem (by omega)⟩
    obtain ⟨k1, _⟩ := r6 1 u hu (.msl 9001 bs2.size 0 bs2.size) rfl
    rw [hu]
    cases k1 with
    | msl _ _ _ _ _ _ hp =>
      obtain ⟨_, p2⟩ := hp lb hlb
      rw [p2 (by rw [hrob.2.2.2.1, bsRow_len])]
  have hbn : b ∉ lb.fp := H.rel.dis 9000 9001 _ _ l2 lb rfl rfl (by decide) hl2 hlb b (by simp [Loc.fp, r3])
  have hfp : ∀ k, k ∈ Loc.fp { l2 with more := lb.fp } → k ∈ l2.fp ∨ k ∈ lb.fp := fun k hk => by
    simp only [Loc.fp, List.mem_append] at hk ⊢
    rcases hk with hk | hk
    · exact .inl (.inl hk)
    · exact .inr hk
  have e1 : upd (fun _ => none) 9000 (some ({ l2 with more := lb.fp } : Loc)) 9000 = some { l2 with more := lb.fp } := upd_same ..
  refine ⟨upd (fun _ => none) 9000 (some { l2 with more := lb.fp }), ⟨⟨H.grows.size, H.grows.os, H.grows.tape, H.grows.output, fun k hk hn => H.grows.block k hk fun h => hn (hT k h)⟩, H.im, fun k hk => ?_, ⟨fun r o hr => ?_, fun r r' o o' l1 l3 p1 p2 hn => ?_⟩, fun r o hr l' hl' => ?_, fun r o hr q hq => ?_⟩⟩
  · obtain ⟨p1, p2⟩ := H.imn k hk
    exact ⟨p1, p2.imp id fun h => h.imp id (hT k)⟩
  · obtain ⟨rfl, rfl⟩ := lkH_one hr
    refine ⟨_, e1, ⟨r1, ⟨b, r3⟩, Bld.keep, b, T, ms, r3, r4, hms, .inr ⟨hne, hm0, lb, rfl, hbn, hm1, bbuf_any hrob⟩⟩, fun k hk => ?_⟩
    rcases hfp k hk with h | h
    · obtain ⟨p1, p2, p3⟩ := hf2 k h
      exact ⟨p1, p2, p3.imp id (hT k)⟩
    · obtain ⟨p1, p2, p3⟩ := hfb k h
      exact ⟨p1, p2, p3.imp id (hT k)⟩
  · exact absurd ((lkH_one p1).1.trans (lkH_one p2).1.symm) hn
  · have := hone r o hr
    subst this
    rw [e1] at hl'; injection hl' with hl'; subst hl'
    obtain ⟨m', hm'⟩ := hmore
    exact ⟨l, q3, .inr (.inr ⟨q4, m', hm'⟩)⟩
  · obtain ⟨rfl, rfl⟩ := lkH_one hr
    simp [AObj.ment] at hq
theorem ra_nom {h : Nat → Option Obj} {Im : Nat → Prop} {ρ ρ' : Nat → Option Loc} {v : Value} {x : AV} (H : RA h Im ρ v x) (hx : ∀ r, x.ment r = false) : RA h Im ρ' v x :=
  H.mono (fun _ h => h) (fun _ _ => rfl) fun r hr => by rw [hx r] at hr; exact absurd hr (by simp)
theorem Ctr.bld {E : Env} {f : FuncId} {args : List AV} {res : AV} {bs bs2 : ByteArray} (hne : bs2.size ≠ 0) (hargs : ∀ x ∈ args, ∀ r, x.ment r = true → r = 9000) (hres : ∀ r, res.ment r = false)
    (hb : bs.size = 0 → ∀ T, BldT T → Ctr E f args [(9000, Option.some (.tvar T zB))] fun o => o = .ret res [(9000, Option.some (bvar bs2.size)), (9001, Option.some (bbuf bs2))])
    (hu : Ctr E f args [(9000, Option.some (bvar bs.size)), (9001, Option.some (bbuf bs))] fun o => o = .ret res [(9000, Option.some (bvar bs2.size)), (9001, Option.some (bbuf bs2))]) :
    Ctr E f args [(9000, Option.some (bldO bs))] fun o => o = .ret res [(9000, Option.some (bldO bs2))] := by
  refine ⟨hu.1, fun w Im ρ vs hG hIm hgl hsz hra hrel => ?_⟩
  obtain ⟨l9, hl9, hro9, -⟩ := hrel.obj 9000 (bldO bs) rfl
  have hone : ∀ r o, lkH r [(9000, Option.some (bldO bs))] = Option.some o → r = 9000 := fun r o hr => (lkH_one hr).1
  rcases open_bld hrel with ⟨h0, T, hT, hr2⟩ | ⟨h0, l, lb, hl, hbuf, hm, hr2⟩
  · refine ((hb h0 T hT).2 w Im ρ vs hG hIm hgl hsz hra hr2).mono fun e w' he => ?_
    cases e with
    | returned v =>
      obtain ⟨res', ho, Im', ρ', h1, h2, h3, A⟩ := he
      injection h1 with e1 e2; subst e1; subst e2
      obtain ⟨ρ3, A3⟩ := close_bld (ρ := ρ) (hin := [(9000, Option.some (bldO bs))]) hne (fun k hk => by
        obtain ⟨r, o, l', hr, q1, q2⟩ := hk
        obtain ⟨rfl, rfl⟩ := lkH_one hr
        exact ⟨_, _, l', rfl, q1, q2⟩) (fun l' hl' => by
        rw [hl9] at hl'; injection hl' with hl'; subst hl'
        exact ⟨_, hl9, hro9.1, l9.more, rfl⟩) ⟨_, rfl⟩ hone A
      exact ⟨_, _, Im', ρ3, rfl, ra_nom h2 hres, fun r hr => (by rw [hres r] at hr; exact absurd hr (by simp)), A3⟩
    | panicked ch => obtain ⟨ho, Im', ρ', h1, h4⟩ := he; exact absurd h1 (by simp)
    | outgrown => exact he
  · have e1 : upd (upd ρ 9000 (Option.some { l with more := [] })) 9001 (Option.some lb) 9000 = Option.some { l with more := [] } := by rw [upd_ne _ _ (by decide), upd_same]
    refine (hu.2 w Im _ vs hG hIm hgl hsz (fun i v x hv hx => (hra i v x hv hx).mono (fun _ h => h) (fun _ _ => rfl) fun r hr l' hl' => ?_) hr2).mono fun e w' he => ?_
    · have := hargs x (List.mem_of_getElem? hx) r hr
      subst this
      rw [e1] at hl'; injection hl' with hl'; subst hl'
      exact ⟨l, hl, .inr (.inr ⟨hbuf, [], rfl⟩)⟩
    · cases e with
      | returned v =>
        obtain ⟨res', ho, Im', ρ', h1, h2, h3, A⟩ := he
        injection h1 with q1 q2; subst q1; subst q2
        obtain ⟨ρ3, A3⟩ := close_bld (ρ := ρ) (hin := [(9000, Option.some (bldO bs))]) hne (fun k hk => tin_bld hl hm hk) (fun l' hl' => by
          rw [e1] at hl'; injection hl' with hl'; subst hl'
          exact ⟨l, hl, hbuf, [], rfl⟩) ⟨_, rfl⟩ hone A
        exact ⟨_, _, Im', ρ3, rfl, ra_nom h2 hres, fun r hr => (by rw [hres r] at hr; exact absurd hr (by simp)), A3⟩
      | panicked ch => obtain ⟨ho, Im', ρ', h1, h4⟩ := he; exact absurd h1 (by simp)
      | outgrown => exact he
theorem Ctr.bldEnd {E : Env} {f : FuncId} {args : List AV} {res : AV} {bs : ByteArray} (hargs : ∀ x ∈ args, ∀ r, x.ment r = true → r = 9000) (hres : ∀ r, res.ment r = false)
    (hbod : Bodied E.P f) (hb : bs.size = 0 → ∀ T, BldT T → Ctr E f args [(9000, Option.some (.tvar T zB))] fun o => o = .ret res [])
    (hu : bs.size ≠ 0 → Ctr E f args [(9000, Option.some (bvar bs.size)), (9001, Option.some (bbuf bs))] fun o => o = .ret res []) :
    Ctr E f args [(9000, Option.some (bldO bs))] fun o => o = .ret res [] := by
  refine ⟨hbod, fun w Im ρ vs hG hIm hgl hsz hra hrel => ?_⟩
  have fin : ∀ {ρ0 ρ' : Nat → Option Loc} {hin0 : HL} {w' : World} {Im' : Nat → Prop}, (∀ k, TIn ρ0 hin0 k → TIn ρ [(9000, Option.some (bldO bs))] k) → After w Im ρ0 hin0 w' Im' ρ' [] → After w Im ρ [(9000, Option.some (bldO bs))] w' Im' (fun _ => Option.none) [] := fun {ρ0 ρ' hin0 w' Im'} hT H =>
    ⟨⟨H.grows.size, H.grows.os, H.grows.tape, H.grows.output, fun k hk hn => H.grows.block k hk fun h => hn (hT k h)⟩, H.im, fun k hk => by
      obtain ⟨p1, p2⟩ := H.imn k hk
      exact ⟨p1, p2.imp id fun h => h.imp id (hT k)⟩, ⟨fun r o hr => by simp [lkH] at hr, fun r r' o o' l1 l3 p1 => by simp [lkH] at p1⟩, fun r o hr l' hl' => by simp at hl', fun r o hr => by simp [lkH] at hr⟩
  rcases open_bld hrel with ⟨h0, T, hT, hr2⟩ | ⟨h0, l, lb, hl, hbuf, hm, hr2⟩
  · refine ((hb h0 T hT).2 w Im ρ vs hG hIm hgl hsz hra hr2).mono fun e w' he => ?_
    cases e with
    | returned v =>
      obtain ⟨res', ho, Im', ρ', h1, h2, h3, A⟩ := he
      injection h1 with e1 e2; subst e1; subst e2
      exact ⟨_, _, Im', _, rfl, ra_nom h2 hres, fun r hr => (by rw [hres r] at hr; exact absurd hr (by simp)), fin (fun k hk => by
        obtain ⟨r, o, l', hr, q1, q2⟩ := hk
        obtain ⟨rfl, rfl⟩ := lkH_one hr
        exact ⟨_, _, l', rfl, q1, q2⟩) A⟩
    | panicked ch => obtain ⟨ho, Im', ρ', h1, h4⟩ := he; exact absurd h1 (by simp)
    | outgrown => exact he
  · have e1 : upd (upd ρ 9000 (Option.some { l with more := [] })) 9001 (Option.some lb) 9000 = Option.some { l with more := [] } := by rw [upd_ne _ _ (by decide), upd_same]
    refine ((hu h0).2 w Im _ vs hG hIm hgl hsz (fun i v x hv hx => (hra i v x hv hx).mono (fun _ h => h) (fun _ _ => rfl) fun r hr l' hl' => ?_) hr2).mono fun e w' he => ?_
    · have := hargs x (List.mem_of_getElem? hx) r hr
      subst this
      rw [e1] at hl'; injection hl' with hl'; subst hl'
      exact ⟨l, hl, .inr (.inr ⟨hbuf, [], rfl⟩)⟩
    · cases e with
      | returned v =>
        obtain ⟨res', ho, Im', ρ', h1, h2, h3, A⟩ := he
        injection h1 with q1 q2; subst q1; subst q2
        exact ⟨_, _, Im', _, rfl, ra_nom h2 hres, fun r hr => (by rw [hres r] at hr; exact absurd hr (by simp)), fin (fun k hk => tin_bld hl hm hk) A⟩
      | panicked ch => obtain ⟨ho, Im', ρ', h1, h4⟩ := he; exact absurd h1 (by simp)
      | outgrown => exact he
theorem write_ctr (g : GP) (bs s : ByteArray) (hs : bs.size + s.size ≤ 140737488355328) (h0 : s.size ≠ 0) : Ctr (ax g).E 34 [.ptr 9000 0, .str s] [(9000, some (bldO bs))] (fun o => o = .ret (.tup [.i64 s.size, .d (.v .nilIface)]) [(9000, some (bldO (bs ++ s)))]) :=
  Ctr.bld (by rw [ByteArray.size_append]; omega) (fun x hx r hr => by
    simp at hx
    rcases hx with rfl | rfl
    · exact (Nat.eq_of_beq_eq_true hr).symm
    · exact absurd hr (by simp [AV.ment])) (fun r => rfl) (fun hz T hT => by
    have e : bs ++ s = s := by
      apply ByteArray.ext; rw [ByteArray.data_append]
      have : bs.data = #[] := Array.eq_empty_of_size_eq_zero hz
      rw [this]; simp
    rw [e]; exact writeFresh_ctr g T hT s (by omega)) (writeUsed_ctr g bs s hs)
theorem byte_ctr (g : GP) (bs : ByteArray) (b : UInt8) (hs : bs.size + 1 ≤ 140737488355328) : Ctr (ax g).E 65 [.ptr 9000 0, .d (.v (.int .u8 b.toNat))] [(9000, some (bldO bs))] (fun o => o = .ret (.d (.v .nilIface)) [(9000, some (bldO (bs ++ oneB b)))]) :=
  Ctr.bld (by rw [ByteArray.size_append]; show bs.size + 1 ≠ 0; omega) (fun x hx r hr => by
    simp at hx
    rcases hx with rfl | rfl
    · exact (Nat.eq_of_beq_eq_true hr).symm
    · exact absurd hr (by simp [AV.ment])) (fun r => rfl) (fun hz T hT => by
    have e : bs ++ oneB b = oneB b := by
      apply ByteArray.ext; rw [ByteArray.data_append]
      have : bs.data = #[] := Array.eq_empty_of_size_eq_zero hz
      rw [this]; simp
    rw [e]; exact byteFresh_ctr g T hT b) (byteUsed_ctr g bs b hs)
theorem bstring_ctr (g : GP) (bs : ByteArray) : Ctr (ax g).E 38 [.ptr 9000 0] [(9000, some (bldO bs))] (fun o => o = .ret (.str bs) []) :=
  Ctr.bldEnd (fun x hx r hr => by simp at hx; subst hx; exact (Nat.eq_of_beq_eq_true hr).symm) (fun r => rfl) ⟨_, Tryd.func38, rfl, by decide +kernel⟩ (fun hz T hT => by
    have : bs = ⟨#[]⟩ := by
      apply ByteArray.ext; exact Array.eq_empty_of_size_eq_zero hz
    rw [this]; exact stringFresh_ctr g T) (fun hne => stringUsed_ctr g bs hne)
end Go.Ax
namespace Go.Ax
open Go.Proofs Go.RowKit Go.Shelf Go.Lib
theorem join_ctr (g : GP) (t : Bool) (xs : List ByteArray) (sep : ByteArray) (hN : xs.length ≤ 140737488355328) (hlen : (Lib.join (xs.map (·.data.toList)) sep.data.toList).length ≤ 140737488355328) :
    Ctr (ax g).E 41 [.d (.sl t 1 (xs.map fun x => [.v (.string x)])), .d (.v (.string sep))] [] fun o => o = .ret (.d (.v (.string ⟨(Lib.join (xs.map (·.data.toList)) sep.data.toList).toArray⟩))) [] := by
  refine ⟨⟨_, Tryd.func41, rfl, by decide +kernel⟩, fun w Im ρ vs hG hIm hgl hsz hra hrel => ?_⟩
  have h0 := hra 0 (vs.getD 0 undef) _ (by simp at hsz; simp [Array.getD, hsz]) rfl
  have h1 := hra 1 (vs.getD 1 undef) _ (by simp at hsz; simp [Array.getD, hsz]) rfl
  have hvs : vs = #[vs.getD 0 undef, vs.getD 1 undef] := by
    simp at hsz
    apply Array.ext (by simp [hsz])
    intro i h1 h2
    simp at h2
    match i with
    | 0 => simp [Array.getD, hsz]
    | 1 => simp [Array.getD, hsz]
  have hsep := h1.v
  have hfin : ∀ e w', (e = .returned (.string ⟨(Lib.join (xs.map (·.data.toList)) sep.data.toList).toArray⟩) ∧ Below w.heap.size w w') → Ends (fun o => o = .ret (.d (.v (.string ⟨(Lib.join (xs.map (·.data.toList)) sep.data.toList).toArray⟩))) []) w Im ρ [] e w' := fun e w' ⟨he, hB⟩ => by
    subst he
    exact ⟨_, [], Im, _, rfl, RA.intv _ rfl, fun r hr => by simp [AV.ment] at hr, after_below hIm hB⟩
  rw [hvs, hsep]
  have hd := h0.d_inv
  generalize hv : vs.getD 0 undef = v at hd
  generalize hels : (xs.map fun x => [D.v (.string x)]) = els at hd
  cases hd with
  | nil _ _ a cap _ =>
    have hx : xs = [] := by simpa using hels
    subst hx
    exact (Tryd.strings_Join_none a cap sep w).mono fun e w' ⟨h1, h2⟩ => hfin e w' ⟨h1, by rw [h2]; exact Below.refl _ _⟩
  | sl _ _ _ b o cap f hss hb hle _ hcc hr =>
    subst hels
    have := Tryd.strings_Join b o cap xs sep w (fun j x hj => by
      have h1 : (xs.map fun x => [D.v (.string x)])[j]? = some [D.v (.string x)] := by simp [hj]
      obtain ⟨cs, t', fz, e1, e2⟩ := hcc j 0 _ _ h1 rfl
      have e3 := (hr j 0 _ _ h1 rfl).bool
      rw [e3] at e2
      have := cell_hp e1 e2
      simpa using this) (hIm b hb) hN (by simpa using hle) hlen
    simp only [List.length_map]
    exact this.mono hfin
end Go.Ax
namespace Go.Ax
open Go.Proofs Go.Lib
set_option maxRecDepth 10000
theorem join_snoc (sep x : List UInt8) : ∀ (l : List (List UInt8)), l ≠ [] → Lib.join (l ++ [x]) sep = Lib.join l sep ++ sep ++ x
  | [], h => absurd rfl h
  | [a], _ => by simp [Lib.join, List.intercalate]
  | a :: b :: l, _ => by
    have := join_snoc sep x (b :: l) (by simp)
    simp only [Lib.join, List.intercalate, List.cons_append, List.intersperse_cons_cons, List.flatten_cons] at this ⊢
    rw [this]; simp
theorem frz_whole (r sz n : Nat) (els : List (List D)) (h : n = els.length) : frz r sz els (.msl r n 0 n) = .d (.sl false sz els) := by
  subst h
  have h1 : Nat.ble (0 + els.length) els.length = true := Nat.ble_eq_true_of_le (by omega)
  have h2 : Nat.beq els.length els.length = true := by simp
  have h3 : Nat.beq r r = true := by simp
  show (match r.beq r, els.length.beq els.length, (0 + els.length).ble els.length with
      | true, true, true => AV.d (D.sl false sz (List.take els.length (List.drop 0 els)))
      | _, _, _ => AV.msl r els.length 0 els.length) = AV.d (D.sl false sz els)
  rw [h1, h2, h3]
  simp
end Go.Ax
namespace Go.Ax
open Go.Proofs Go.Lib
set_option maxRecDepth 10000
theorem i64_conv {n : Int} (h : 0 ≤ n) (h1 : n < 65536) : IntKind.i64.wrap n = ((n.toNat : Nat) : Int) := by rw [IntKind.wrap_i64]; omega
theorem digB_len {n : Nat} (h : n < 65536) : (digB n).size ≤ 5 := dec_len5 n (by omega)
theorem Ctr.fromNew {E : Env} {f : FuncId} {args : List AV} {post : AOut → Prop} {T : TypeId} (hT : BldT T) (h : Ctr E f args [(9000, Option.some (bldO ⟨#[]⟩))] post) : Ctr E f args [(9000, Option.some (.tvar T zB))] post := by
  refine ⟨h.1, fun w Im ρ vs hG hIm hgl hsz hra hrel => ?_⟩
  have hr2 : HRel w Im ρ [(9000, Option.some (bldO ⟨#[]⟩))] (fun _ => True) := by
    refine ⟨fun r o hr => ?_, fun r r' o o' l l' hr hr' hne => absurd ((lkH_one hr).1.trans (lkH_one hr').1.symm) hne⟩
    obtain ⟨rfl, rfl⟩ := lkH_one hr
    obtain ⟨l, hl, hro, hf⟩ := hrel.obj 9000 (.tvar T zB) rfl
    obtain ⟨h1, h2, b, ms, h4, h5, h6, h7⟩ := hro
    have h6 : ms.size = 2 := h6
    have hm0 : ms[0]? = Option.some (.pointer Option.none) := by
      have h0 : 0 < ms.size := by omega
      have := (h7 0 ms[0] _ (Array.getElem?_eq_getElem h0) rfl).bool
      rw [Array.getElem?_eq_getElem h0, this]
    have hm1 : ms[1]? = Option.some (.slice Option.none 0 0) := by
      have h0 : 1 < ms.size := by omega
      have := (h7 1 ms[1] _ (Array.getElem?_eq_getElem h0) rfl).bool
      rw [Array.getElem?_eq_getElem h0, this]
    exact ⟨l, hl, ⟨h1, ⟨b, h4⟩, Bld.keep, b, T, ms, h4, h5, h6, .inl ⟨rfl, hT, h2, hm0, hm1⟩⟩, hf⟩
  have hT' : ∀ k, TIn ρ [(9000, Option.some (bldO ⟨#[]⟩))] k → TIn ρ [(9000, Option.some (.tvar T zB))] k := fun k ⟨r, o, l, hr, q1, q2⟩ => by
    obtain ⟨rfl, rfl⟩ := lkH_one hr
    exact ⟨9000, _, l, rfl, q1, q2⟩
  have hA : ∀ {w' : World} {Im' : Nat → Prop} {ρ' : Nat → Option Loc} {ho : HL}, After w Im ρ [(9000, Option.some (bldO ⟨#[]⟩))] w' Im' ρ' ho → After w Im ρ [(9000, Option.some (.tvar T zB))] w' Im' ρ' ho := fun H =>
    ⟨⟨H.grows.size, H.grows.os, H.grows.tape, H.grows.output, fun k hk hn => H.grows.block k hk fun h => hn (hT' k h)⟩, H.im, fun k hk => by
      obtain ⟨p1, p2⟩ := H.imn k hk
      exact ⟨p1, p2.imp id fun h => h.imp id (hT' k)⟩, ⟨fun r o hr => by
      obtain ⟨l, q1, q2, q3⟩ := H.rel.obj r o hr
      exact ⟨l, q1, q2, fun b hb => by obtain ⟨k1, k2, k3⟩ := q3 b hb; exact ⟨k1, k2, k3.imp id (hT' b)⟩⟩, H.rel.dis⟩, fun r o hr l' hl' => by
      obtain ⟨rfl, rfl⟩ := lkH_one hr
      exact H.anc 9000 _ rfl l' hl', H.cl⟩
  refine (h.2 w Im ρ vs hG hIm hgl hsz hra hr2).mono fun e w' he => ?_
  cases e with
  | returned v => obtain ⟨res, ho, Im', ρ', h1, h2, h3, A⟩ := he; exact ⟨res, ho, Im', ρ', h1, h2, h3, hA A⟩
  | panicked ch => obtain ⟨ho, Im', ρ', h1, A⟩ := he; exact ⟨ho, Im', ρ', h1, hA A⟩
  | outgrown => exact he
theorem CallP.ends {E : Env} {k : Kn} {f : FuncId} {args : List AV} {s : St} {K : AV → HL → Prop} {KP : List PanicEntry → HL → Prop} {res : AV} {r : Nat} {ob : AObj} (hr : lkH r s.h = some ob) (h : Ctr E f args [(r, some ob)] fun o => o = .ret res []) (hk : K res ((r, none) :: s.h)) : CallP E k f args s K KP :=
  ⟨_, _, h, fun q o hq => by obtain ⟨rfl, rfl⟩ := lkH_one hq; exact hr, fun res' ho e => by
    injection e with e1 e2; subst e1; subst e2
    exact ⟨fun q o hq => by simp [lkH] at hq, hk⟩, fun ch ho e => by simp at e⟩
theorem write3 (g : GP) (bs s : ByteArray) (hs : bs.size + s.size ≤ 140737488355328) (h0 : s.size ≠ 0) : Ctr (ax g).E 34 [.ptr 3 0, .str s] [(3, some (bldO bs))] (fun o => o = .ret (.tup [.i64 s.size, .d (.v .nilIface)]) [(3, some (bldO (bs ++ s)))]) :=
  (write_ctr g bs s hs h0).swap 3 9000
theorem string3 (g : GP) (bs : ByteArray) : Ctr (ax g).E 38 [.ptr 3 0] [(3, some (bldO bs))] (fun o => o = .ret (.str bs) []) :=
  (bstring_ctr g bs).swap 3 9000
def dotB : ByteArray := ⟨#[32, 46, 10]⟩
def spB : ByteArray := ⟨#[32]⟩
def swB (b : ByteArray) (n : Int) : ByteArray := b ++ (spB ++ digB n.toNat)
theorem foldl_size {α : Type} (f : ByteArray → α → ByteArray) (k : Nat) : ∀ (l : List α) (b : ByteArray), (∀ x ∈ l, ∀ b, (f b x).size ≤ b.size + k) → (l.foldl f b).size ≤ b.size + k * l.length
  | [], b, _ => by simp
  | x :: l, b, h => by
    have h1 := foldl_size f k l (f b x) fun y hy => h y (List.mem_cons_of_mem _ hy)
    have h2 := h x (List.mem_cons_self ..) b
    simp only [List.foldl_cons, List.length_cons, Nat.mul_add, Nat.mul_one]
    omega
theorem swB_size {n : Int} (h : 0 ≤ n ∧ n < 65536) (b : ByteArray) : (swB b n).size ≤ b.size + 6 := by
  have := digB_len (n := n.toNat) (by omega)
  have h2 : spB.size = 1 := rfl
  simp only [swB, ByteArray.size_append]; omega
end Go.Ax
namespace Go.Ax
open Go.Proofs
set_option maxRecDepth 10000
def zero4 : List (List D) := [[.u16 0], [.u16 0], [.u16 0], [.u16 0]]
theorem any_ctr (g : GP) (a : D) (b c d : D) (e f : D) : Ctr (ax g).E 48 [.dagg [a, b, c, d, e, f]] [] (fun o => o = .ret (.dagg [.sl false 1 zero4, b, c, d, e, f]) []) := by
  refine Ctr.body (X := ax g) _ 6 [] [.cell 2 52] Tryd.func48 rfl rfl rfl rfl (by decide +kernel) rfl rfl ?_
  conv => whnf
  repeat' (first | (refine And.intro (by first | exact rfl | decide | exact Nat.le_of_ble_eq_true rfl | exact ⟨_, rfl⟩ | exact ⟨_, _, rfl⟩ | omega | (simp only [List.length_map]; omega) | exact True.intro | (simp only [IntKind.wrap_i64, List.length_map]; omega) | (simp only [List.map_cons, List.map_nil, List.length_cons, Option.getD]; omega) | (simp only [bsz, ByteArray.size_append, List.size_toArray, List.length_cons, List.length_nil]; omega)) ?_; conv => whnf) | (refine ifB_intro (fun hA => ?_) (fun hA => ?_) <;> (try rw [hA]) <;> (conv => whnf) <;> (first | replace hA := of_decide_eq_true hA | replace hA := of_decide_eq_false hA | replace hA := eq_of_beq hA | replace hA := ne_of_beq_false hA | replace hA := bne_iff_ne.1 hA | replace hA := bne_eq_false_iff_eq.1 hA | skip) <;> (try simp only [List.length_map, cond_true, cond_false, Bool.not_eq_true', Bool.not_eq_false', beq_iff_eq, beq_eq_false_iff_ne, ne_eq] at hA)))
  refine ⟨⟨[], ?_⟩⟩
  conv => whnf
  repeat' (first | (refine And.intro (by first | exact rfl | decide | exact Nat.le_of_ble_eq_true rfl | exact ⟨_, rfl⟩ | exact ⟨_, _, rfl⟩ | omega | (simp only [List.length_map]; omega) | exact True.intro | (simp only [IntKind.wrap_i64, List.length_map]; omega) | (simp only [List.map_cons, List.map_nil, List.length_cons, Option.getD]; omega) | (simp only [bsz, ByteArray.size_append, List.size_toArray, List.length_cons, List.length_nil]; omega)) ?_; conv => whnf) | (refine ifB_intro (fun hA => ?_) (fun hA => ?_) <;> (try rw [hA]) <;> (conv => whnf) <;> (first | replace hA := of_decide_eq_true hA | replace hA := of_decide_eq_false hA | replace hA := eq_of_beq hA | replace hA := ne_of_beq_false hA | replace hA := bne_iff_ne.1 hA | replace hA := bne_eq_false_iff_eq.1 hA | skip) <;> (try simp only [List.length_map, cond_true, cond_false, Bool.not_eq_true', Bool.not_eq_false', beq_iff_eq, beq_eq_false_iff_ne, ne_eq] at hA)))
  rfl
theorem digits6_ctr (g : GP) (hg : ∀ w, g.G w → PowG w) (n : Int) (h : 0 ≤ n ∧ n < 65536) : Ctr (ax g).E 35 [.d (.v (.int .u16 n))] [] (fun o => o = .ret (.str (digB n.toNat)) []) := by
  refine Ctr.body (X := ax g) _ 6 [] [.tmp 2] Tryd.func35 rfl rfl rfl rfl (by decide +kernel) rfl rfl ?_
  conv => whnf
  rw [i64_conv h.1 h.2]
  repeat' (first | (refine And.intro (by first | exact rfl | decide | exact Nat.le_of_ble_eq_true rfl | exact ⟨_, rfl⟩ | exact ⟨_, _, rfl⟩ | omega | (simp only [List.length_map]; omega) | exact True.intro | (simp only [IntKind.wrap_i64, List.length_map]; omega) | (simp only [List.map_cons, List.map_nil, List.length_cons, Option.getD]; omega) | (simp only [bsz, ByteArray.size_append, List.size_toArray, List.length_cons, List.length_nil]; omega)) ?_; conv => whnf) | (refine ifB_intro (fun hA => ?_) (fun hA => ?_) <;> (try rw [hA]) <;> (conv => whnf) <;> (first | replace hA := of_decide_eq_true hA | replace hA := of_decide_eq_false hA | replace hA := eq_of_beq hA | replace hA := ne_of_beq_false hA | replace hA := bne_iff_ne.1 hA | replace hA := bne_eq_false_iff_eq.1 hA | skip) <;> (try simp only [List.length_map, cond_true, cond_false, Bool.not_eq_true', Bool.not_eq_false', beq_iff_eq, beq_eq_false_iff_ne, ne_eq] at hA)) | (refine CallP.det (itoa_ctr g hg _ (by omega)) ?_; conv => whnf) | (refine CallD.det (itoa_ctr g hg _ (by omega)) ?_; conv => whnf))
  refine ⟨⟨[], ?_⟩⟩
  conv => whnf
  rfl
theorem itoaI_ctr (g : GP) (hg : ∀ w, g.G w → PowG w) (n : Int) (h : 0 ≤ n ∧ n < 65536) : Ctr (ax g).E 40 [.i64 n] [] (fun o => o = .ret (.str (digB n.toNat)) []) := by
  have := itoa_ctr g hg n.toNat (by omega)
  rw [show ((n.toNat : Nat) : Int) = n by omega] at this
  exact this
def partB (f : Int) (sign : ByteArray) (n : Int) : ByteArray := ((⟨#[64]⟩ ++ digB f.toNat) ++ sign) ++ digB n.toNat
theorem digI_len {n : Int} (h : n < 65536) : (digB n.toNat).size ≤ 5 := digB_len (by omega)
theorem part_ctr (g : GP) (hg : ∀ w, g.G w → PowG w) (f : Int) (sign : ByteArray) (n : Int) (hf : 0 ≤ f ∧ f < 65536) (h : 0 ≤ n ∧ n < 65536) (hs : sign.size ≤ 10) : Ctr (ax g).E 64 [.i64 f, .str sign, .d (.v (.int .u16 n))] [] (fun o => o = .ret (.str (partB f sign n)) []) := by
  refine Ctr.body (X := ax g) _ 15 [] [.tmp 6] Tryd.func64 rfl rfl rfl rfl (by decide +kernel) rfl rfl ?_
  conv => whnf
  have h1 := digI_len hf.2
  have h2 := digI_len h.2
  repeat' (first | (refine And.intro (by first | exact rfl | decide | exact Nat.le_of_ble_eq_true rfl | exact ⟨_, rfl⟩ | exact ⟨_, _, rfl⟩ | omega | (simp only [List.length_map]; omega) | exact True.intro | (simp only [IntKind.wrap_i64, List.length_map]; omega) | (simp only [List.map_cons, List.map_nil, List.length_cons, Option.getD]; omega) | (simp only [bsz, ByteArray.size_append, List.size_toArray, List.length_cons, List.length_nil]; omega)) ?_; conv => whnf) | (refine ifB_intro (fun hA => ?_) (fun hA => ?_) <;> (try rw [hA]) <;> (conv => whnf) <;> (first | replace hA := of_decide_eq_true hA | replace hA := of_decide_eq_false hA | replace hA := eq_of_beq hA | replace hA := ne_of_beq_false hA | replace hA := bne_iff_ne.1 hA | replace hA := bne_eq_false_iff_eq.1 hA | skip) <;> (try simp only [List.length_map, cond_true, cond_false, Bool.not_eq_true', Bool.not_eq_false', beq_iff_eq, beq_eq_false_iff_ne, ne_eq] at hA)) | (refine CallP.det (itoaI_ctr g hg f hf) ?_; conv => whnf) | (refine CallD.det (itoaI_ctr g hg f hf) ?_; conv => whnf) | (refine CallP.det (digits6_ctr g hg n h) ?_; conv => whnf) | (refine CallD.det (digits6_ctr g hg n h) ?_; conv => whnf))
  refine ⟨⟨[], ?_⟩⟩
  conv => whnf
  rfl
end Go.Ax
