import Derived.Test.YtjokajidcojlmaaDoorDAxSg
import Derived.Test.YtjokajidcojlmaaDoorDAxV
import Derived.Test.YtjokajidcojlmaaDoorDAxRc
import Derived.Test.YtjokajidcojlmaaDoorDAxCh

/- syntax's parser: a program. -/
namespace Go.Ax
open Go.Proofs
set_option maxRecDepth 10000

def initC : ByteArray := ⟨#[105, 110, 105, 116]⟩
def letC : ByteArray := ⟨#[108, 101, 116]⟩
def policyC : ByteArray := ⟨#[112, 111, 108, 105, 99, 121]⟩
def onC : ByteArray := ⟨#[111, 110]⟩
def numsGo : Nat → List Int → SP → Option (List Int × SP)
  | 0, _, _ => none
  | n + 1, acc, p => if (takeS dotC p).1 = true then some (acc, (takeS dotC p).2) else (numS (takeS dotC p).2).bind fun x => numsGo n (acc ++ [x.1]) x.2
def noted (c : SP) (w : ByteArray) (n : Int) : SP := { c with unk := c.unk || nsHas c.ns w, ns := nsPut c.ns w n }
def letsGo : Nat → SP → Option SP
  | 0, _ => none
  | n + 1, p => if (takeS letC p).1 = true then (nameS (takeS letC p).2).bind fun w => (mustS eqB w.2).bind fun a => (numS a).bind fun x => (mustS dotC x.2).bind fun c => letsGo n (noted c w.1 x.1)
    else some (takeS letC p).2
def rulesGo : Nat → List RuleT → SP → Option (List RuleT × SP)
  | 0, _, _ => none
  | n + 1, acc, p => if (takeS onC p).1 = true then (ruleS (takeS onC p).2).bind fun x => rulesGo n (acc ++ [x.1]) x.2 else some (acc, (takeS onC p).2)
def RulesOk : Nat → SP → Prop
  | 0, _ => True
  | n + 1, p => (takeS onC p).1 = true → ∀ r q, ruleS (takeS onC p).2 = some (r, q) → OkRu r ∧ RulesOk n q
def headS (p : SP) : Option (List Int × SP) := (mustS initC p).bind fun a => (numS a).bind fun x => (numsGo x.2.l.length [x.1] x.2).bind fun i => (letsGo i.2.l.length i.2).bind fun b => some (i.1, b)
def bodyS (i : List Int) (b : SP) : Option (ProgT × SP) := (mustS policyC b).bind fun c => (sumS c.l.length c).bind fun s => (mustS dotC s.2).bind fun d => (rulesGo d.l.length [] d).bind fun rs => if (hdT rs.2).kind = 0 then some (⟨i, s.1, rs.1⟩, rs.2) else none
def progS (p : SP) : Option (ProgT × SP) := (headS p).bind fun x => bodyS x.1 x.2
/-- All rules that are met have their pairs in order. -/
def ProgOk (p : SP) : Prop := ∀ i b, headS p = some (i, b) → ∀ c, mustS policyC b = some c → ∀ s, sumS c.l.length c = some s → ∀ d, mustS dotC s.2 = some d → RulesOk d.l.length d

theorem DrawP.asVar {E : Env} {k : Kn} {id : Nat} {ops : Array Oper} {Q : APost} {s : St} (q n : Nat) (cs : List D) (hq : lkH q s.h = some (.dvar n cs)) (h : DrawP E k id ops Q { f := s.f, h := (q, some (.var (cs.map .d))) :: s.h }) : DrawP E k id ops Q s := ⟨AWp.asVar q n cs hq h.ok⟩

theorem Ctr.rowA {E : Env} {f : FuncId} {args : List AV} {hin : HL} {α : Type} {ch : List PanicEntry} {row : α → List D} {hx : α → HL} {sp : Option α} (h : Ctr E f args hin fun o => o = outP ch (fun x => .agg ((row x).map .d)) hx sp) : Ctr E f args hin fun o => o = outP ch (fun x => .dagg (row x)) hx sp :=
  Ctr.loose (rx := fun x => .agg ((row x).map .d)) (h.mono fun _ h => .inl h) (fun _ _ => rfl) fun _ _ _ _ _ H => H.dagg_of
theorem condsGo_len : ∀ {n : Nat} {w g : List PairT} {p q : SP} {x : List PairT × List PairT}, condsGo n w g p = some (x, q) → q.l.length ≤ p.l.length
  | 0, _, _, _, _, _, h => by simp [condsGo] at h
  | n + 1, w, g, p, q, x, h => by
    rw [condsGo] at h
    split at h
    · simp at h
    · rename_i b y r hr
      have h1 := condS_len hr
      have h2 := takeS_len (s := ampB) (p := r)
      split at h
      · have := condsGo_len h; omega
      · injection h with h; injection h with _ h; subst h; omega
theorem ruleS_len {p : SP} {r : RuleT} {q : SP} (h : ruleS p = some (r, q)) : q.l.length < p.l.length := by
  simp only [ruleS, Option.bind_eq_some_iff] at h
  obtain ⟨x, h1, p2, h2, y, h3, p4, h4, h5⟩ := h
  injection h5 with h5; injection h5 with _ h5; subst h5
  have a1 := condsGo_len (x := x.1) (q := x.2) h1
  have a2 := mustS_len h2
  have a3 := listS_len (fun _ _ _ h => partS_len h) _ _ _ h3
  have a4 := mustS_len h4
  show p4.l.length < p.l.length
  omega
def outH (i : List Int) (rs : List RuleT) (op f n : Int) (kids : D) (p : SP) : HL := (2, some (.var [.d (.v (.slice none 0 0)), .i64 0, .i64 0, .d (.u16 0), .d (.v (.slice none 0 0)), .d (.v (.slice none 0 0))])) :: (3, some (.var [.msl 15 i.length 0 i.length, .i64 op, .i64 f, .d (.u16 n), .d kids, .msl 9005 rs.length 0 rs.length])) :: (15, some (.buf 1 26 (i.map rowS))) :: (9005, some (.buf 3 39 (rs.map rowR))) :: spH p
theorem program_ctr (g : GP) (N : Nat) (hN0 : N ≤ 100000) (p : SP) (hp : p.l.length ≤ N) (hk : ProgOk p) : Ctr (ax g).E 141 [.ptr 9000 0] (spH p) (fun o => o = outP Failed (fun x : ProgT × SP => .dagg (rowG x.1)) (fun x => spH x.2) (progS p)) := by
  refine Ctr.rowA ?_
  refine Ctr.body (X := ax g) _ 89 [9000, 9001] [.cell 2 34] Tryd.func141 rfl rfl rfl rfl (by decide +kernel) rfl rfl ?_
  conv => whnf
  repeat' (first | (refine And.intro (by first | exact rfl | decide | exact Nat.le_of_ble_eq_true rfl | exact ⟨_, rfl⟩ | exact ⟨_, _, rfl⟩ | exact Nat.le_refl _ | exact Int.le_refl _ | omega | (simp only [List.length_map]; omega) | exact True.intro | (simp only [IntKind.wrap_i64, List.length_map]; omega) | (simp only [List.map_cons, List.map_nil, List.length_cons, Option.getD]; omega) | (simp only [bsz, ByteArray.size_append, List.size_toArray, List.length_cons, List.length_nil]; omega) | exact ⟨⟨_, _, rfl, rfl, Nat.le_of_ble_eq_true rfl⟩, trivial⟩ | exact ⟨⟨_, _, rfl, rfl, Nat.le_of_ble_eq_true rfl⟩, ⟨_, _, rfl, rfl, Nat.le_of_ble_eq_true rfl⟩, trivial⟩ | exact ⟨⟨_, _, rfl, rfl, Nat.le_of_ble_eq_true rfl⟩, ⟨_, _, rfl, rfl, Nat.le_of_ble_eq_true rfl⟩, ⟨_, _, rfl, rfl, Nat.le_of_ble_eq_true rfl⟩, trivial⟩) ?_; conv => whnf) | (refine ifB_intro (fun hA => ?_) (fun hA => ?_) <;> (try rw [hA]) <;> (conv => whnf) <;> (first | replace hA := of_decide_eq_true hA | replace hA := of_decide_eq_false hA | replace hA := eq_of_beq hA | replace hA := ne_of_beq_false hA | replace hA := bne_iff_ne.1 hA | replace hA := bne_eq_false_iff_eq.1 hA | skip) <;> (try simp only [List.length_map, cond_true, cond_false, Bool.not_eq_true', Bool.not_eq_false', beq_iff_eq, beq_eq_false_iff_ne, ne_eq] at hA)) | (refine CallP.may (must5_ctr g p initC (by decide)) (by (conv => whnf); repeat' first | exact trivial | refine And.intro (fun _ h => h) ?_) (fun _ => rfl) (fun hN => ?_) (fun xS hS => ?_) <;> (conv => whnf) <;> (try refine ⟨⟨[], trivial, rfl, ?_⟩⟩)) | (rw [getD_map _ _ _ _ (by assumption)]; conv => whnf))
  · rw [progS, headS, hN]; rfl
  · have hd : (numS xS = none → progS p = none) := fun h => by rw [progS, headS, hS]; simp only [Option.bind_some, h]; rfl
    refine DrawP.asVar 3 6 _ rfl ?_
    cases hP : numS xS with
    | none =>
      have hc := (num5_ctr g xS).none hP
      refine DrawP.any (X := ax g) (by decide +kernel) ?_
      conv => whnf
      repeat' (first | (refine And.intro (by first | exact rfl | decide | exact Nat.le_of_ble_eq_true rfl | exact ⟨_, rfl⟩ | exact ⟨_, _, rfl⟩ | exact Nat.le_refl _ | exact Int.le_refl _ | omega | (simp only [List.length_map]; omega) | exact True.intro | (simp only [IntKind.wrap_i64, List.length_map]; omega) | (simp only [List.map_cons, List.map_nil, List.length_cons, Option.getD]; omega) | (simp only [bsz, ByteArray.size_append, List.size_toArray, List.length_cons, List.length_nil]; omega) | exact ⟨⟨_, _, rfl, rfl, Nat.le_of_ble_eq_true rfl⟩, trivial⟩ | exact ⟨⟨_, _, rfl, rfl, Nat.le_of_ble_eq_true rfl⟩, ⟨_, _, rfl, rfl, Nat.le_of_ble_eq_true rfl⟩, trivial⟩ | exact ⟨⟨_, _, rfl, rfl, Nat.le_of_ble_eq_true rfl⟩, ⟨_, _, rfl, rfl, Nat.le_of_ble_eq_true rfl⟩, ⟨_, _, rfl, rfl, Nat.le_of_ble_eq_true rfl⟩, trivial⟩) ?_; conv => whnf) | (refine ifB_intro (fun hA => ?_) (fun hA => ?_) <;> (try rw [hA]) <;> (conv => whnf) <;> (first | replace hA := of_decide_eq_true hA | replace hA := of_decide_eq_false hA | replace hA := eq_of_beq hA | replace hA := ne_of_beq_false hA | replace hA := bne_iff_ne.1 hA | replace hA := bne_eq_false_iff_eq.1 hA | skip) <;> (try simp only [List.length_map, cond_true, cond_false, Bool.not_eq_true', Bool.not_eq_false', beq_iff_eq, beq_eq_false_iff_ne, ne_eq] at hA)) | (refine CallP.dies (hc) (by (conv => whnf); repeat' first | exact trivial | refine And.intro (fun _ h => h) ?_) ?_; (conv => whnf); refine ⟨⟨[], trivial, rfl, ?_⟩⟩) | (refine BothP.mk ?_ ?_ <;> conv => whnf) | (rw [getD_map _ _ _ _ (by assumption)]; conv => whnf))
      all_goals (rw [hd hP]; rfl)
    | some y =>
      obtain ⟨x, q⟩ := y
      have hc := (num5_ctr g xS).some hP
      refine DrawP.intro (X := ax g) (id := 3) B141_3 (by kernel_rfl) (by decide +kernel) ?_
      conv => whnf
      repeat' (first | (refine And.intro (by first | exact rfl | decide | exact Nat.le_of_ble_eq_true rfl | exact ⟨_, rfl⟩ | exact ⟨_, _, rfl⟩ | exact Nat.le_refl _ | exact Int.le_refl _ | omega | (simp only [List.length_map]; omega) | exact True.intro | (simp only [IntKind.wrap_i64, List.length_map]; omega) | (simp only [List.map_cons, List.map_nil, List.length_cons, Option.getD]; omega) | (simp only [bsz, ByteArray.size_append, List.size_toArray, List.length_cons, List.length_nil]; omega) | exact ⟨⟨_, _, rfl, rfl, Nat.le_of_ble_eq_true rfl⟩, trivial⟩ | exact ⟨⟨_, _, rfl, rfl, Nat.le_of_ble_eq_true rfl⟩, ⟨_, _, rfl, rfl, Nat.le_of_ble_eq_true rfl⟩, trivial⟩ | exact ⟨⟨_, _, rfl, rfl, Nat.le_of_ble_eq_true rfl⟩, ⟨_, _, rfl, rfl, Nat.le_of_ble_eq_true rfl⟩, ⟨_, _, rfl, rfl, Nat.le_of_ble_eq_true rfl⟩, trivial⟩) ?_; conv => whnf) | (refine ifB_intro (fun hA => ?_) (fun hA => ?_) <;> (try rw [hA]) <;> (conv => whnf) <;> (first | replace hA := of_decide_eq_true hA | replace hA := of_decide_eq_false hA | replace hA := eq_of_beq hA | replace hA := ne_of_beq_false hA | replace hA := bne_iff_ne.1 hA | replace hA := bne_eq_false_iff_eq.1 hA | skip) <;> (try simp only [List.length_map, cond_true, cond_false, Bool.not_eq_true', Bool.not_eq_false', beq_iff_eq, beq_eq_false_iff_ne, ne_eq] at hA)) | (refine CallP.hlb (hc) (by (conv => whnf); repeat' first | exact trivial | refine And.intro (fun _ h => h) ?_) rfl ?_; conv => whnf) | (refine CallD.hlb (hc) (by (conv => whnf); repeat' first | exact trivial | refine And.intro (fun _ h => h) ?_) ?_; conv => whnf) | (rw [getD_map _ _ _ _ (by assumption)]; conv => whnf))
      have hhead : headS p = (numsGo q.l.length [x] q).bind fun i => (letsGo i.2.l.length i.2).bind fun b => some (i.1, b) := by
        rw [headS, hS]; simp only [Option.bind_some, hP]
      have hl1 := mustS_len hS
      have hl2 := numS_len hP
      refine LoopP.asVar 2 6 _ rfl ?_
      refine LoopP.ownCell 3 5 9005 3 39 _ rfl rfl rfl ?_
      generalize hR : numsGo q.l.length [x] q = R at hhead
      refine LoopP.inv (X := ax g) (fun y : List Int × SP => { f := [(0, .ptr 9000 0), (2, .ptr 2 0), (3, .ptr 3 0)], h := outH y.1 [] 0 0 0 (.v (.slice none 0 0)) y.2 }) (fun y => y.1.length + y.2.l.length ≤ N ∧ ∃ n, y.2.l.length ≤ n ∧ numsGo n y.1 y.2 = R) (fun y => y.2.l.length) ([x], q) ⟨by show 1 + q.l.length ≤ N; omega, q.l.length, Nat.le_refl _, hR⟩ ⟨⟨rfl, rfl, rfl, trivial⟩, ⟨fun o h => h, fun o h => h, fun o h => h, fun o h => h, fun o h => h, fun o h => h, trivial⟩⟩ fun y hy => ?_
      obtain ⟨acc, q2⟩ := y
      obtain ⟨hn0, n, hn, hR2⟩ := hy
      replace hn0 : acc.length + q2.l.length ≤ N := hn0
      replace hn : q2.l.length ≤ n := hn
      have hpos : 0 < q2.l.length := by
        obtain ⟨l, ok, ns, u, tw⟩ := q2
        cases l with
        | nil => exact ok.not_nil.elim
        | cons t r => simp
      obtain ⟨m, rfl⟩ : ∃ m, n = m + 1 := ⟨n - 1, by omega⟩
      have ht := take_ctr g q2 dotC (by decide)
      have htl := takeS_len (s := dotC) (p := q2)
      replace hR2 : numsGo (m + 1) acc q2 = R := hR2
      conv => whnf
      repeat' (first | (refine And.intro (by first | exact rfl | decide | exact Nat.le_of_ble_eq_true rfl | exact ⟨_, rfl⟩ | exact ⟨_, _, rfl⟩ | exact Nat.le_refl _ | exact Int.le_refl _ | omega | (simp only [List.length_map]; omega) | exact True.intro | (simp only [IntKind.wrap_i64, List.length_map]; omega) | (simp only [List.map_cons, List.map_nil, List.length_cons, Option.getD]; omega) | (simp only [bsz, ByteArray.size_append, List.size_toArray, List.length_cons, List.length_nil]; omega) | exact ⟨⟨_, _, rfl, rfl, Nat.le_of_ble_eq_true rfl⟩, trivial⟩ | exact ⟨⟨_, _, rfl, rfl, Nat.le_of_ble_eq_true rfl⟩, ⟨_, _, rfl, rfl, Nat.le_of_ble_eq_true rfl⟩, trivial⟩ | exact ⟨⟨_, _, rfl, rfl, Nat.le_of_ble_eq_true rfl⟩, ⟨_, _, rfl, rfl, Nat.le_of_ble_eq_true rfl⟩, ⟨_, _, rfl, rfl, Nat.le_of_ble_eq_true rfl⟩, trivial⟩) ?_; conv => whnf) | (refine ifB_intro (fun hA => ?_) (fun hA => ?_) <;> (try rw [hA]) <;> (conv => whnf) <;> (first | replace hA := of_decide_eq_true hA | replace hA := of_decide_eq_false hA | replace hA := eq_of_beq hA | replace hA := ne_of_beq_false hA | replace hA := bne_iff_ne.1 hA | replace hA := bne_eq_false_iff_eq.1 hA | skip) <;> (try simp only [Bool.not_eq_true', Bool.not_eq_false'] at hA)) | (refine CallP.hlb (ht) (by (conv => whnf); repeat' first | exact trivial | refine And.intro (fun _ h => h) ?_) rfl ?_; conv => whnf) | (refine CallD.hlb (ht) (by (conv => whnf); repeat' first | exact trivial | refine And.intro (fun _ h => h) ?_) ?_; conv => whnf) | (rw [getD_map _ _ _ _ (by assumption)]; conv => whnf))
      · have hR3 : (numS (takeS dotC q2).2).bind (fun x => numsGo m (acc ++ [x.1]) x.2) = R := by rw [← hR2, numsGo, if_neg (by simp [hA])]
        cases hP2 : numS (takeS dotC q2).2 with
        | none =>
          have hc2 := (num5_ctr g (takeS dotC q2).2).none hP2
          have hRn : progS p = none := by rw [progS, hhead, ← hR3, hP2]; rfl
          refine DrawP.any (X := ax g) (by decide +kernel) ?_
          conv => whnf
          repeat' (first | (refine And.intro (by first | exact rfl | decide | exact Nat.le_of_ble_eq_true rfl | exact ⟨_, rfl⟩ | exact ⟨_, _, rfl⟩ | exact Nat.le_refl _ | exact Int.le_refl _ | omega | (simp only [List.length_map]; omega) | exact True.intro | (simp only [IntKind.wrap_i64, List.length_map]; omega) | (simp only [List.map_cons, List.map_nil, List.length_cons, Option.getD]; omega) | (simp only [bsz, ByteArray.size_append, List.size_toArray, List.length_cons, List.length_nil]; omega) | exact ⟨⟨_, _, rfl, rfl, Nat.le_of_ble_eq_true rfl⟩, trivial⟩ | exact ⟨⟨_, _, rfl, rfl, Nat.le_of_ble_eq_true rfl⟩, ⟨_, _, rfl, rfl, Nat.le_of_ble_eq_true rfl⟩, trivial⟩ | exact ⟨⟨_, _, rfl, rfl, Nat.le_of_ble_eq_true rfl⟩, ⟨_, _, rfl, rfl, Nat.le_of_ble_eq_true rfl⟩, ⟨_, _, rfl, rfl, Nat.le_of_ble_eq_true rfl⟩, trivial⟩) ?_; conv => whnf) | (refine ifB_intro (fun hA => ?_) (fun hA => ?_) <;> (try rw [hA]) <;> (conv => whnf) <;> (first | replace hA := of_decide_eq_true hA | replace hA := of_decide_eq_false hA | replace hA := eq_of_beq hA | replace hA := ne_of_beq_false hA | replace hA := bne_iff_ne.1 hA | replace hA := bne_eq_false_iff_eq.1 hA | skip) <;> (try simp only [List.length_map, cond_true, cond_false, Bool.not_eq_true', Bool.not_eq_false', beq_iff_eq, beq_eq_false_iff_ne, ne_eq] at hA)) | (refine CallP.dies (hc2) (by (conv => whnf); repeat' first | exact trivial | refine And.intro (fun _ h => h) ?_) ?_; (conv => whnf); refine ⟨⟨[], trivial, rfl, ?_⟩⟩) | (refine BothP.mk ?_ ?_ <;> conv => whnf) | (rw [getD_map _ _ _ _ (by assumption)]; conv => whnf))
          all_goals (rw [hRn]; rfl)
        | some y =>
          obtain ⟨v, r⟩ := y
          have hc2 := (num5_ctr g (takeS dotC q2).2).some hP2
          have hl3 := numS_len hP2
          rw [hP2] at hR3
          refine DrawP.intro (X := ax g) (id := 5) B141_5 (by kernel_rfl) (by decide +kernel) ?_
          conv => whnf
          repeat' (first | (refine And.intro (by first | exact rfl | decide | exact Nat.le_of_ble_eq_true rfl | exact ⟨_, rfl⟩ | exact ⟨_, _, rfl⟩ | exact Nat.le_refl _ | exact Int.le_refl _ | omega | (simp only [List.length_map]; omega) | exact True.intro | (simp only [List.length_map]; omega) | (simp only [List.length_cons]; omega) | (simp only [List.length_cons, List.length_nil]; omega) | exact ⟨⟨_, _, rfl, rfl, Nat.le_of_ble_eq_true rfl⟩, trivial⟩ | exact ⟨⟨_, _, rfl, rfl, Nat.le_of_ble_eq_true rfl⟩, ⟨_, _, rfl, rfl, Nat.le_of_ble_eq_true rfl⟩, trivial⟩ | exact ⟨⟨_, _, rfl, rfl, Nat.le_of_ble_eq_true rfl⟩, ⟨_, _, rfl, rfl, Nat.le_of_ble_eq_true rfl⟩, ⟨_, _, rfl, rfl, Nat.le_of_ble_eq_true rfl⟩, trivial⟩) ?_; conv => whnf) | (refine ifB_intro (fun hA => ?_) (fun hA => ?_) <;> (try rw [hA]) <;> (conv => whnf) <;> (first | replace hA := of_decide_eq_true hA | replace hA := of_decide_eq_false hA | replace hA := eq_of_beq hA | replace hA := ne_of_beq_false hA | replace hA := bne_iff_ne.1 hA | replace hA := bne_eq_false_iff_eq.1 hA | skip) <;> (try simp only [List.length_map, cond_true, cond_false, Bool.not_eq_true', Bool.not_eq_false', beq_iff_eq, beq_eq_false_iff_ne, ne_eq] at hA)) | (refine CallP.hlb (hc2) (by (conv => whnf); repeat' first | exact trivial | refine And.intro (fun _ h => h) ?_) rfl ?_; conv => whnf) | (refine CallD.hlb (hc2) (by (conv => whnf); repeat' first | exact trivial | refine And.intro (fun _ h => h) ?_) ?_; conv => whnf) | (refine And.intro (by first | exact (List.length_map ..).symm | (simp only [List.length_map, List.length_cons, List.length_nil]; omega)) ?_; conv => whnf) | (rw [getD_map _ _ _ _ (by assumption)]; conv => whnf))
          refine ⟨(acc ++ [v], r), ⟨by show (acc ++ [v]).length + r.l.length ≤ N; simp only [List.length_append, List.length_cons, List.length_nil]; omega, m, by show r.l.length ≤ m; omega, hR3⟩, by show r.l.length < q2.l.length; omega, ⟨⟨rfl, rfl, rfl, trivial⟩, ⟨fun o h => h, fun o h => ?_, fun o h => ?_, fun o h => h, fun o h => h, fun o h => h, trivial⟩⟩⟩
          · rw [← h]; simp; rfl
          · rw [← h]; simp; rfl
      · have hR3 : R = some (acc, (takeS dotC q2).2) := by rw [← hR2, numsGo, if_pos hA]
        generalize hq3 : (takeS dotC q2).2 = q3 at hR3 htl
        rw [hR3] at hhead
        simp only [Option.bind_some] at hhead
        generalize hRL : letsGo q3.l.length q3 = RL at hhead
        refine LoopP.inv (X := ax g) (fun y : SP => { f := [(0, .ptr 9000 0), (2, .ptr 2 0), (3, .ptr 3 0)], h := outH acc [] 0 0 0 (.v (.slice none 0 0)) y }) (fun y => acc.length + y.l.length ≤ N ∧ ∃ n, y.l.length ≤ n ∧ letsGo n y = RL) (fun y => y.l.length) q3 ⟨by omega, q3.l.length, Nat.le_refl _, hRL⟩ ⟨⟨rfl, rfl, rfl, trivial⟩, ⟨fun o h => h, fun o h => h, fun o h => h, fun o h => h, fun o h => h, fun o h => h, trivial⟩⟩ fun y hy => ?_
        obtain ⟨hn1, n1, hn2, hRL2⟩ := hy
        have hpos1 : 0 < y.l.length := by
          obtain ⟨l, ok, ns, u, tw⟩ := y
          cases l with
          | nil => exact ok.not_nil.elim
          | cons t r => simp
        obtain ⟨m1, rfl⟩ : ∃ m, n1 = m + 1 := ⟨n1 - 1, by omega⟩
        have ht1 := take_ctr g y letC (by decide)
        have htl1 := takeS_len (s := letC) (p := y)
        have hdie : letsGo (m1 + 1) y = none → progS p = none := fun h => by rw [progS, hhead, ← hRL2, h]; rfl
        conv => whnf
        repeat' (first | (refine And.intro (by first | exact rfl | decide | exact Nat.le_of_ble_eq_true rfl | exact ⟨_, rfl⟩ | exact ⟨_, _, rfl⟩ | exact Nat.le_refl _ | exact Int.le_refl _ | omega | (simp only []; omega) | exact True.intro | (simp only []; omega) | (simp only []; omega) | (simp only []; omega) | exact ⟨⟨_, _, rfl, rfl, Nat.le_of_ble_eq_true rfl⟩, trivial⟩ | exact ⟨⟨_, _, rfl, rfl, Nat.le_of_ble_eq_true rfl⟩, ⟨_, _, rfl, rfl, Nat.le_of_ble_eq_true rfl⟩, trivial⟩ | exact ⟨⟨_, _, rfl, rfl, Nat.le_of_ble_eq_true rfl⟩, ⟨_, _, rfl, rfl, Nat.le_of_ble_eq_true rfl⟩, ⟨_, _, rfl, rfl, Nat.le_of_ble_eq_true rfl⟩, trivial⟩) ?_; conv => whnf) | (refine ifB_intro (fun hA => ?_) (fun hA => ?_) <;> (try rw [hA]) <;> (conv => whnf) <;> (first | replace hA := of_decide_eq_true hA | replace hA := of_decide_eq_false hA | replace hA := eq_of_beq hA | replace hA := ne_of_beq_false hA | replace hA := bne_iff_ne.1 hA | replace hA := bne_eq_false_iff_eq.1 hA | skip) <;> (try simp only [List.length_map, cond_true, cond_false, Bool.not_eq_true', Bool.not_eq_false', beq_iff_eq, beq_eq_false_iff_ne, ne_eq] at hA)) | (refine CallP.hlb (ht1) (by (conv => whnf); repeat' first | exact trivial | refine And.intro (fun _ h => h) ?_) rfl ?_; conv => whnf) | (refine CallD.hlb (ht1) (by (conv => whnf); repeat' first | exact trivial | refine And.intro (fun _ h => h) ?_) ?_; conv => whnf) | (refine CallP.may (name5_ctr g _) (by (conv => whnf); repeat' first | exact trivial | refine And.intro (fun _ h => h) ?_) (fun _ => rfl) (fun hN => ?_) (fun xS hS => ?_) <;> (conv => whnf) <;> (try refine ⟨⟨[], trivial, rfl, ?_⟩⟩)) | (refine CallP.may (must5_ctr g xS.2 eqB (by decide)) (by (conv => whnf); repeat' first | exact trivial | refine And.intro (fun _ h => h) ?_) (fun _ => rfl) (fun hN => ?_) (fun xS hS => ?_) <;> (conv => whnf) <;> (try refine ⟨⟨[], trivial, rfl, ?_⟩⟩)) | (refine CallP.may (must5_ctr g xS.2 dotC (by decide)) (by (conv => whnf); repeat' first | exact trivial | refine And.intro (fun _ h => h) ?_) (fun _ => rfl) (fun hN => ?_) (fun xS hS => ?_) <;> (conv => whnf) <;> (try refine ⟨⟨[], trivial, rfl, ?_⟩⟩)) | (refine CallP.may (num5_ctr g xS) (by (conv => whnf); repeat' first | exact trivial | refine And.intro (fun _ h => h) ?_) (fun _ => rfl) (fun hN => ?_) (fun xS hS => ?_) <;> (conv => whnf) <;> (try refine ⟨⟨[], trivial, rfl, ?_⟩⟩)) | (rw [getD_map _ _ _ _ (by assumption)]; conv => whnf))
        · rw [hdie (by rw [letsGo, if_pos hA, hN]; rfl)]; rfl
        · rw [hdie (by rw [letsGo, if_pos hA, hS]; simp only [Option.bind_some, hN]; rfl)]; rfl
        · rename_i w hw
          rw [hdie (by rw [letsGo, if_pos hA, hw]; simp only [Option.bind_some, hS, hN]; rfl)]; rfl
        · rename_i w hw a ha
          rw [hdie (by rw [letsGo, if_pos hA, hw]; simp only [Option.bind_some, ha, hS, hN]; rfl)]; rfl
        · rename_i w hw a ha x2 hx2
          have hRL3 : letsGo m1 (noted xS w.1 x2.1) = RL := by rw [← hRL2, letsGo, if_pos hA, hw]; simp only [Option.bind_some, ha, hx2, hS]
          have b1 := nameS_len hw
          have b2 := mustS_len ha
          have b3 := numS_len hx2
          have b4 := mustS_len hS
          have b5 := htl1.2 hA
          repeat' (first | (refine And.intro (by first | exact rfl | decide | exact Nat.le_of_ble_eq_true rfl | exact ⟨_, rfl⟩ | exact ⟨_, _, rfl⟩ | exact Nat.le_refl _ | exact Int.le_refl _ | omega | (simp only []; omega) | exact True.intro | (simp only []; omega) | (simp only []; omega) | (simp only []; omega) | exact ⟨⟨_, _, rfl, rfl, Nat.le_of_ble_eq_true rfl⟩, trivial⟩ | exact ⟨⟨_, _, rfl, rfl, Nat.le_of_ble_eq_true rfl⟩, ⟨_, _, rfl, rfl, Nat.le_of_ble_eq_true rfl⟩, trivial⟩ | exact ⟨⟨_, _, rfl, rfl, Nat.le_of_ble_eq_true rfl⟩, ⟨_, _, rfl, rfl, Nat.le_of_ble_eq_true rfl⟩, ⟨_, _, rfl, rfl, Nat.le_of_ble_eq_true rfl⟩, trivial⟩) ?_; conv => whnf) | (refine ifB_intro (fun hA => ?_) (fun hA => ?_) <;> (try rw [hA]) <;> (conv => whnf) <;> (first | replace hA := of_decide_eq_true hA | replace hA := of_decide_eq_false hA | replace hA := eq_of_beq hA | replace hA := ne_of_beq_false hA | replace hA := bne_iff_ne.1 hA | replace hA := bne_eq_false_iff_eq.1 hA | skip) <;> (try simp only [List.length_map, cond_true, cond_false, Bool.not_eq_true', Bool.not_eq_false', beq_iff_eq, beq_eq_false_iff_ne, ne_eq] at hA)) | (refine And.intro (keyOk_ns _) ?_; conv => whnf) | (refine And.intro (keysOk_ns _) ?_; conv => whnf) | (refine And.intro (hasGet_ns _ _) ?_; conv => whnf) | (rw [getD_map _ _ _ _ (by assumption)]; conv => whnf))
          · refine ⟨noted xS w.1 x2.1, ⟨by show acc.length + xS.l.length ≤ N; omega, m1, by show xS.l.length ≤ m1; omega, hRL3⟩, by show xS.l.length < y.l.length; omega, ⟨⟨rfl, rfl, rfl, trivial⟩, ⟨fun o h => h, fun o h => h, fun o h => h, fun o h => h, fun o h => ?_, fun o h => ?_, trivial⟩⟩⟩
            · rw [← h]; simp only [objSP, noted, hA, Bool.true_or]; rfl
            · rw [← h]; exact congrArg (fun z => some (AObj.map false z)) (mput_ns xS.ns w.1 x2.1)
          · refine ⟨noted xS w.1 x2.1, ⟨by show acc.length + xS.l.length ≤ N; omega, m1, by show xS.l.length ≤ m1; omega, hRL3⟩, by show xS.l.length < y.l.length; omega, ⟨⟨rfl, rfl, rfl, trivial⟩, ⟨fun o h => h, fun o h => h, fun o h => h, fun o h => h, fun o h => ?_, fun o h => ?_, trivial⟩⟩⟩
            · rw [← h]; simp only [objSP, noted, hA, Bool.false_or]; exact congrArg (fun z => some (AObj.var [.d (.sl false 3 (xS.l.map rowK)), .mp 9001, .bool z, .bool xS.twi])) (mhas_ns xS.ns w.1)
            · rw [← h]; exact congrArg (fun z => some (AObj.map false z)) (mput_ns xS.ns w.1 x2.1)
        · generalize hbq : (takeS letC y).2 = b at htl1
          have hhb : headS p = some (acc, b) := by rw [hhead, ← hRL2, letsGo, if_neg (by simp [hA]), hbq]; rfl
          have hpb : progS p = bodyS acc b := by rw [progS, hhb]; rfl
          have hk1 := hk acc b hhb
          rw [hpb]
          repeat' (first | (refine And.intro (by first | exact rfl | decide | exact Nat.le_of_ble_eq_true rfl | exact ⟨_, rfl⟩ | exact ⟨_, _, rfl⟩ | exact Nat.le_refl _ | exact Int.le_refl _ | omega | (simp only [List.length_map]; omega) | exact True.intro | (simp only [IntKind.wrap_i64, List.length_map]; omega) | (simp only [List.map_cons, List.map_nil, List.length_cons, Option.getD]; omega) | (simp only [bsz, ByteArray.size_append, List.size_toArray, List.length_cons, List.length_nil]; omega) | exact ⟨⟨_, _, rfl, rfl, Nat.le_of_ble_eq_true rfl⟩, trivial⟩ | exact ⟨⟨_, _, rfl, rfl, Nat.le_of_ble_eq_true rfl⟩, ⟨_, _, rfl, rfl, Nat.le_of_ble_eq_true rfl⟩, trivial⟩ | exact ⟨⟨_, _, rfl, rfl, Nat.le_of_ble_eq_true rfl⟩, ⟨_, _, rfl, rfl, Nat.le_of_ble_eq_true rfl⟩, ⟨_, _, rfl, rfl, Nat.le_of_ble_eq_true rfl⟩, trivial⟩) ?_; conv => whnf) | (refine ifB_intro (fun hA => ?_) (fun hA => ?_) <;> (try rw [hA]) <;> (conv => whnf) <;> (first | replace hA := of_decide_eq_true hA | replace hA := of_decide_eq_false hA | replace hA := eq_of_beq hA | replace hA := ne_of_beq_false hA | replace hA := bne_iff_ne.1 hA | replace hA := bne_eq_false_iff_eq.1 hA | skip) <;> (try simp only [List.length_map, cond_true, cond_false, Bool.not_eq_true', Bool.not_eq_false', beq_iff_eq, beq_eq_false_iff_ne, ne_eq] at hA)) | (refine CallP.may (must5_ctr g b policyC (by decide)) (by (conv => whnf); repeat' first | exact trivial | refine And.intro (fun _ h => h) ?_) (fun _ => rfl) (fun hN => ?_) (fun xS hS => ?_) <;> (conv => whnf) <;> (try refine ⟨⟨[], trivial, rfl, ?_⟩⟩)) | (refine CallP.may (sum_ctr g xS.l.length xS (Nat.le_refl _) (by have := mustS_len hS; omega)) (by (conv => whnf); repeat' first | exact trivial | refine And.intro (fun _ h => h) ?_) (fun _ => rfl) (fun hN => ?_) (fun xS hS => ?_) <;> (conv => whnf) <;> (try refine ⟨⟨[], trivial, rfl, ?_⟩⟩)) | (refine CallP.may (must5_ctr g xS.2 dotC (by decide)) (by (conv => whnf); repeat' first | exact trivial | refine And.intro (fun _ h => h) ?_) (fun _ => rfl) (fun hN => ?_) (fun xS hS => ?_) <;> (conv => whnf) <;> (try refine ⟨⟨[], trivial, rfl, ?_⟩⟩)) | (rw [getD_map _ _ _ _ (by assumption)]; conv => whnf))
          · rw [bodyS, hN]; rfl
          · rw [bodyS, hS]; simp only [Option.bind_some, hN]; rfl
          · rename_i c1 hc1
            rw [bodyS, hc1]; simp only [Option.bind_some, hS, hN]; rfl
          · rename_i c1 hc1 s1 hs1
            have hrok := hk1 c1 hc1 s1 hs1 xS hS
            have d1 := mustS_len hc1
            have d2 := sumS_len _ _ _ _ hs1
            have d3 := mustS_len hS
            have hbs : bodyS acc b = (rulesGo xS.l.length [] xS).bind fun rs => if (hdT rs.2).kind = 0 then some (⟨acc, s1.1, rs.1⟩, rs.2) else none := by
              rw [bodyS, hc1]; simp only [Option.bind_some, hs1, hS]
            rw [hbs]
            generalize hRR : rulesGo xS.l.length [] xS = RR
            refine LoopP.inv (X := ax g) (fun z : List RuleT × SP => { f := [(0, .ptr 9000 0), (2, .ptr 2 0), (3, .ptr 3 0)], h := outH acc z.1 s1.1.op s1.1.f s1.1.n (.sl false 4 (s1.1.kids.map rowO4)) z.2 }) (fun z => z.1.length + z.2.l.length ≤ N ∧ ∃ n, z.2.l.length ≤ n ∧ RulesOk n z.2 ∧ rulesGo n z.1 z.2 = RR) (fun z => z.2.l.length) ([], xS) ⟨by show 0 + xS.l.length ≤ N; omega, xS.l.length, Nat.le_refl _, hrok, hRR⟩ ⟨⟨rfl, rfl, rfl, trivial⟩, ⟨fun o h => h, fun o h => h, fun o h => h, fun o h => h, fun o h => h, fun o h => h, trivial⟩⟩ fun z hz => ?_
            obtain ⟨rs, z⟩ := z
            obtain ⟨e0, nn, e1, e2, e3⟩ := hz
            replace e0 : rs.length + z.l.length ≤ N := e0
            replace e1 : z.l.length ≤ nn := e1
            have hposz : 0 < z.l.length := by
              obtain ⟨l, ok, ns, u, tw⟩ := z
              cases l with
              | nil => exact ok.not_nil.elim
              | cons t r => simp
            obtain ⟨mm, rfl⟩ : ∃ m, nn = m + 1 := ⟨nn - 1, by omega⟩
            replace e2 : RulesOk (mm + 1) z := e2
            replace e3 : rulesGo (mm + 1) rs z = RR := e3
            have htz := take_ctr g z onC (by decide)
            have htlz := takeS_len (s := onC) (p := z)
            conv => whnf
            repeat' (first | (refine And.intro (by first | exact rfl | decide | exact Nat.le_of_ble_eq_true rfl | exact ⟨_, rfl⟩ | exact ⟨_, _, rfl⟩ | exact Nat.le_refl _ | exact Int.le_refl _ | omega | (simp only [List.length_map]; omega) | exact True.intro | (simp only [List.length_map]; omega) | (simp only [List.map_cons, List.map_nil, List.length_cons, Option.getD]; omega) | (simp only [bsz, ByteArray.size_append, List.size_toArray, List.length_cons, List.length_nil]; omega) | exact ⟨⟨_, _, rfl, rfl, Nat.le_of_ble_eq_true rfl⟩, trivial⟩ | exact ⟨⟨_, _, rfl, rfl, Nat.le_of_ble_eq_true rfl⟩, ⟨_, _, rfl, rfl, Nat.le_of_ble_eq_true rfl⟩, trivial⟩ | exact ⟨⟨_, _, rfl, rfl, Nat.le_of_ble_eq_true rfl⟩, ⟨_, _, rfl, rfl, Nat.le_of_ble_eq_true rfl⟩, ⟨_, _, rfl, rfl, Nat.le_of_ble_eq_true rfl⟩, trivial⟩) ?_; conv => whnf) | (refine ifB_intro (fun hA => ?_) (fun hA => ?_) <;> (try rw [hA]) <;> (conv => whnf) <;> (first | replace hA := of_decide_eq_true hA | replace hA := of_decide_eq_false hA | replace hA := eq_of_beq hA | replace hA := ne_of_beq_false hA | replace hA := bne_iff_ne.1 hA | replace hA := bne_eq_false_iff_eq.1 hA | skip) <;> (try simp only [List.length_map, cond_true, cond_false, Bool.not_eq_true', Bool.not_eq_false', beq_iff_eq, beq_eq_false_iff_ne, ne_eq] at hA)) | (refine CallP.hlb (htz) (by (conv => whnf); repeat' first | exact trivial | refine And.intro (fun _ h => h) ?_) rfl ?_; conv => whnf) | (refine CallD.hlb (htz) (by (conv => whnf); repeat' first | exact trivial | refine And.intro (fun _ h => h) ?_) ?_; conv => whnf) | (rw [getD_map _ _ _ _ (by assumption)]; conv => whnf))
            · have hrok2 := e2 hA
              have hru := rule5_ctr g N hN0 (takeS onC z).2 (by omega) (fun r q h => (hrok2 r q h).1)
              have e4 : (ruleS (takeS onC z).2).bind (fun x => rulesGo mm (rs ++ [x.1]) x.2) = RR := by rw [← e3, rulesGo, if_pos hA]
              cases hP3 : ruleS (takeS onC z).2 with
              | none =>
                have hc3 := hru.none hP3
                have e5 : RR = none := by rw [← e4, hP3]; rfl
                refine DrawP.any (X := ax g) (by decide +kernel) ?_
                conv => whnf
                repeat' (first | (refine And.intro (by first | exact rfl | decide | exact Nat.le_of_ble_eq_true rfl | exact ⟨_, rfl⟩ | exact ⟨_, _, rfl⟩ | exact Nat.le_refl _ | exact Int.le_refl _ | omega | (simp only [List.length_map]; omega) | exact True.intro | (simp only [IntKind.wrap_i64, List.length_map]; omega) | (simp only [List.map_cons, List.map_nil, List.length_cons, Option.getD]; omega) | (simp only [bsz, ByteArray.size_append, List.size_toArray, List.length_cons, List.length_nil]; omega) | exact ⟨⟨_, _, rfl, rfl, Nat.le_of_ble_eq_true rfl⟩, trivial⟩ | exact ⟨⟨_, _, rfl, rfl, Nat.le_of_ble_eq_true rfl⟩, ⟨_, _, rfl, rfl, Nat.le_of_ble_eq_true rfl⟩, trivial⟩ | exact ⟨⟨_, _, rfl, rfl, Nat.le_of_ble_eq_true rfl⟩, ⟨_, _, rfl, rfl, Nat.le_of_ble_eq_true rfl⟩, ⟨_, _, rfl, rfl, Nat.le_of_ble_eq_true rfl⟩, trivial⟩) ?_; conv => whnf) | (refine ifB_intro (fun hA => ?_) (fun hA => ?_) <;> (try rw [hA]) <;> (conv => whnf) <;> (first | replace hA := of_decide_eq_true hA | replace hA := of_decide_eq_false hA | replace hA := eq_of_beq hA | replace hA := ne_of_beq_false hA | replace hA := bne_iff_ne.1 hA | replace hA := bne_eq_false_iff_eq.1 hA | skip) <;> (try simp only [List.length_map, cond_true, cond_false, Bool.not_eq_true', Bool.not_eq_false', beq_iff_eq, beq_eq_false_iff_ne, ne_eq] at hA)) | (refine CallP.dies (hc3) (by (conv => whnf); repeat' first | exact trivial | refine And.intro (fun _ h => h) ?_) ?_; (conv => whnf); refine ⟨⟨[], trivial, rfl, ?_⟩⟩) | (refine BothP.mk ?_ ?_ <;> conv => whnf) | (rw [getD_map _ _ _ _ (by assumption)]; conv => whnf))
                all_goals (rw [e5]; rfl)
              | some y3 =>
                obtain ⟨r3, z3⟩ := y3
                have hc3 := hru.some hP3
                rw [hP3] at e4
                refine DrawP.intro (X := ax g) (id := 18) B141_18 (by kernel_rfl) (by decide +kernel) ?_
                conv => whnf
                repeat' (first | (refine And.intro (by first | exact rfl | decide | exact Nat.le_of_ble_eq_true rfl | exact ⟨_, rfl⟩ | exact ⟨_, _, rfl⟩ | exact Nat.le_refl _ | exact Int.le_refl _ | omega | (simp only [List.length_map]; omega) | exact True.intro | (simp only [List.length_map]; omega) | (simp only [List.length_cons]; omega) | (simp only [List.length_cons, List.length_nil]; omega) | exact ⟨⟨_, _, rfl, rfl, Nat.le_of_ble_eq_true rfl⟩, trivial⟩ | exact ⟨⟨_, _, rfl, rfl, Nat.le_of_ble_eq_true rfl⟩, ⟨_, _, rfl, rfl, Nat.le_of_ble_eq_true rfl⟩, trivial⟩ | exact ⟨⟨_, _, rfl, rfl, Nat.le_of_ble_eq_true rfl⟩, ⟨_, _, rfl, rfl, Nat.le_of_ble_eq_true rfl⟩, ⟨_, _, rfl, rfl, Nat.le_of_ble_eq_true rfl⟩, trivial⟩) ?_; conv => whnf) | (refine ifB_intro (fun hA => ?_) (fun hA => ?_) <;> (try rw [hA]) <;> (conv => whnf) <;> (first | replace hA := of_decide_eq_true hA | replace hA := of_decide_eq_false hA | replace hA := eq_of_beq hA | replace hA := ne_of_beq_false hA | replace hA := bne_iff_ne.1 hA | replace hA := bne_eq_false_iff_eq.1 hA | skip) <;> (try simp only [List.length_map, cond_true, cond_false, Bool.not_eq_true', Bool.not_eq_false', beq_iff_eq, beq_eq_false_iff_ne, ne_eq] at hA)) | (refine CallP.hlb (hc3) (by (conv => whnf); repeat' first | exact trivial | refine And.intro (fun _ h => h) ?_) rfl ?_; conv => whnf) | (refine CallD.hlb (hc3) (by (conv => whnf); repeat' first | exact trivial | refine And.intro (fun _ h => h) ?_) ?_; conv => whnf) | (refine And.intro (by first | exact (List.length_map ..).symm | (simp only [List.length_map, List.length_cons, List.length_nil]; omega)) ?_; conv => whnf) | (rw [getD_map _ _ _ _ (by assumption)]; conv => whnf))
                have hz3 := ruleS_len hP3
                have hzz := htlz.2 hA
                refine ⟨(rs ++ [r3], z3), ⟨by show (rs ++ [r3]).length + z3.l.length ≤ N; simp only [List.length_append, List.length_cons, List.length_nil]; omega, mm, by show z3.l.length ≤ mm; omega, (hrok2 _ _ hP3).2, e4⟩, by show z3.l.length < z.l.length; omega, ⟨⟨rfl, rfl, rfl, trivial⟩, ⟨fun o h => h, fun o h => ?_, fun o h => h, fun o h => ?_, fun o h => h, fun o h => h, trivial⟩⟩⟩
                · rw [← h]; simp; rfl
                · rw [← h]; simp; rfl
            · have e6 : RR = some (rs, (takeS onC z).2) := by rw [← e3, rulesGo, if_neg (by simp [hA])]
              rw [e6]
              generalize (takeS onC z).2 = zz
              obtain ⟨l, ok, ns, u, tw⟩ := zz
              cases l with
              | nil => exact ok.not_nil.elim
              | cons t r =>
                repeat' (first | (refine And.intro (by first | exact rfl | decide | exact Nat.le_of_ble_eq_true rfl | exact ⟨_, rfl⟩ | exact ⟨_, _, rfl⟩ | exact Nat.le_refl _ | exact Int.le_refl _ | omega | (simp only [List.length_map]; omega) | exact True.intro | (simp only [List.length_map]; omega) | (simp only [List.map_cons, List.length_cons]; omega) | (simp only [bsz, ByteArray.size_append, List.size_toArray, List.length_cons, List.length_nil]; omega) | exact ⟨⟨_, _, rfl, rfl, Nat.le_of_ble_eq_true rfl⟩, trivial⟩ | exact ⟨⟨_, _, rfl, rfl, Nat.le_of_ble_eq_true rfl⟩, ⟨_, _, rfl, rfl, Nat.le_of_ble_eq_true rfl⟩, trivial⟩ | exact ⟨⟨_, _, rfl, rfl, Nat.le_of_ble_eq_true rfl⟩, ⟨_, _, rfl, rfl, Nat.le_of_ble_eq_true rfl⟩, ⟨_, _, rfl, rfl, Nat.le_of_ble_eq_true rfl⟩, trivial⟩) ?_; conv => whnf) | (refine ifB_intro (fun hA => ?_) (fun hA => ?_) <;> (try rw [hA]) <;> (conv => whnf) <;> (first | replace hA := of_decide_eq_true hA | replace hA := of_decide_eq_false hA | replace hA := eq_of_beq hA | replace hA := ne_of_beq_false hA | replace hA := bne_iff_ne.1 hA | replace hA := bne_eq_false_iff_eq.1 hA | skip) <;> (try simp only [ne_eq] at hA)) | (refine CallP.fails (fail_ctr g) ?_; (conv => whnf); refine ⟨⟨[], trivial, rfl, ?_⟩⟩) | (rw [getD_map _ _ _ _ (by assumption)]; conv => whnf))
                · simp only [Option.bind_some]
                  rw [if_neg (show ¬(hdT ⟨t :: r, ok, ns, u, tw⟩).kind = 0 from hA)]; rfl
                · simp only [Option.bind_some]
                  rw [if_pos (show (hdT ⟨t :: r, ok, ns, u, tw⟩).kind = 0 from hA)]
                  refine ⟨⟨spH ⟨t :: r, ok, ns, u, tw⟩, ?_⟩⟩
                  conv => whnf
                  repeat' (first | (refine And.intro (by first | exact rfl | decide | exact Nat.le_of_ble_eq_true rfl | exact ⟨_, rfl⟩ | exact ⟨_, _, rfl⟩ | exact Nat.le_refl _ | exact Int.le_refl _ | omega | (simp only [List.length_map]; omega) | exact True.intro | (simp only [List.length_map]; omega) | (simp only [List.map_cons]; omega) | (simp only []; omega) | exact ⟨⟨_, _, rfl, rfl, Nat.le_of_ble_eq_true rfl⟩, trivial⟩ | exact ⟨⟨_, _, rfl, rfl, Nat.le_of_ble_eq_true rfl⟩, ⟨_, _, rfl, rfl, Nat.le_of_ble_eq_true rfl⟩, trivial⟩ | exact ⟨⟨_, _, rfl, rfl, Nat.le_of_ble_eq_true rfl⟩, ⟨_, _, rfl, rfl, Nat.le_of_ble_eq_true rfl⟩, ⟨_, _, rfl, rfl, Nat.le_of_ble_eq_true rfl⟩, trivial⟩) ?_; conv => whnf) | (refine ifB_intro (fun hA => ?_) (fun hA => ?_) <;> (try rw [hA]) <;> (conv => whnf) <;> (first | replace hA := of_decide_eq_true hA | replace hA := of_decide_eq_false hA | replace hA := eq_of_beq hA | replace hA := ne_of_beq_false hA | replace hA := bne_iff_ne.1 hA | replace hA := bne_eq_false_iff_eq.1 hA | skip) <;> (try simp only [List.length_map, cond_true, cond_false, Bool.not_eq_true', Bool.not_eq_false', beq_iff_eq, beq_eq_false_iff_ne, ne_eq] at hA)) | (refine And.intro ⟨fun o h => h, fun o h => h, trivial⟩ ?_; conv => whnf) | (refine And.intro (by first | exact (List.length_map ..).symm | (simp only [List.length_map, Nat.zero_add]; omega)) ?_; conv => whnf) | (rw [getD_map _ _ _ _ (by assumption)]; conv => whnf))
                  have t1 : List.take acc.length (List.drop 0 (acc.map rowS)) = acc.map rowS := by simp [← List.map_take]
                  have t2 : List.take rs.length (List.drop 0 (rs.map rowR)) = rs.map rowR := by simp [← List.map_take]
                  show AOut.ret (.agg [.d (.sl false 1 (List.take acc.length (List.drop 0 (acc.map rowS)))), .d (.i64 s1.1.op), .d (.i64 s1.1.f), .d (.u16 s1.1.n), .d (.sl false 4 (s1.1.kids.map rowO4)), .d (.sl false 3 (List.take rs.length (List.drop 0 (rs.map rowR))))]) _ = _
                  rw [t1, t2]
                  rfl

end Go.Ax

/- Objects renamed: a deferred function. -/
namespace Go.Ax

theorem CtrD.swapG {E : Env} {f : FuncId} {args : List AV} {hin : HL} {u u' : FrameMode} {post post' : AOut → Prop} (a b : Nat) (h : CtrD E f args hin u u' post) (hr : ∀ res ho, post (.ret res ho) → post' (.ret (res.swap a b) (HL.swap a b ho))) (hp : ∀ ch ho, post (.pan ch ho) → post' (.pan ch (HL.swap a b ho))) : CtrD E f (AV.swapL a b args) (HL.swap a b hin) u u' post' := by
  refine ⟨h.1, fun w Im ρ vs hG hIm hgl hsz hra hrel => ?_⟩
  -- the names as the contract has them
  have back : ∀ x : AV, (x.swap a b).swap a b = x := by
    intro x
    induction x using AV.rec (motive_2 := fun l => AV.swapL a b (AV.swapL a b l) = l) with
    | junk => rfl
    | d x => rfl
    | dagg cs => rfl
    | agg cs ih => simp [AV.swap, ih]
    | tup cs ih => simp [AV.swap, ih]
    | ptr q off => simp [AV.swap, swp_swp]
    | ep cs => rfl
    | msl q n off len => simp [AV.swap, swp_swp]
    | mptr q n i j => simp [AV.swap, swp_swp]
    | mp q => simp [AV.swap, swp_swp]
    | clo fn f c ih1 ih2 => simp [AV.swap, ih1, ih2]
    | ifc t x ih => simp [AV.swap, ih]
    | nil => rfl
    | cons x xs ih1 ih2 => simp [AV.swapL, ih1, ih2]
  have backO : ∀ o : AObj, (o.swap a b).swap a b = o := fun o => by
    cases o with
    | var cs =>
      have : ∀ l : List AV, AV.swapL a b (AV.swapL a b l) = l := fun l => by induction l with
        | nil => rfl
        | cons x xs ih => simp [AV.swapL, ih, back]
      simp [AObj.swap, this]
    | _ => rfl
  have hρ : ∀ r, (fun q => ρ (swp a b q)) (swp a b r) = ρ r := fun r => by simp only [swp_swp]
  have hT : ∀ bk, TIn (fun q => ρ (swp a b q)) hin bk → TIn ρ (HL.swap a b hin) bk := fun bk ⟨r, o, l, h1, h2, h3⟩ => ⟨swp a b r, o.swap a b, l, by rw [lkH_swap, h1]; rfl, h2, h3⟩
  have hT' : ∀ bk, TIn ρ (HL.swap a b hin) bk → TIn (fun q => ρ (swp a b q)) hin bk := fun bk ⟨r, o, l, h1, h2, h3⟩ => by
    obtain ⟨o', h4, _⟩ := lkH_unswap h1
    exact ⟨swp a b r, o', l, h4, by simp only [swp_swp]; exact h2, h3⟩
  have := h.2 w Im (fun q => ρ (swp a b q)) vs hG hIm hgl (by rw [hsz, swapL_length]) (fun i v x h1 h2 => by
    have h3 := hra i v (x.swap a b) h1 (by rw [swapL_get, h2]; rfl)
    have h4 := h3.swap (ρ' := fun q => ρ (swp a b q)) a b hρ
    rw [back] at h4; exact h4) ⟨fun r o hr => by
      obtain ⟨l, h1, h2, h3⟩ := hrel.obj (swp a b r) (o.swap a b) (by rw [lkH_swap, hr]; rfl)
      have h4 := h2.swap (ρ' := fun q => ρ (swp a b q)) a b hρ
      rw [backO] at h4
      exact ⟨l, h1, h4, h3⟩, fun r r' o o' l l' h1 h2 hne g1 g2 => hrel.dis (swp a b r) (swp a b r') (o.swap a b) (o'.swap a b) l l' (by rw [lkH_swap, h1]; rfl) (by rw [lkH_swap, h2]; rfl) (fun e => hne (swp_inj e)) g1 g2⟩
  have aft : ∀ (w' : World) (Im' : Nat → Prop) (ρ' : Nat → Option Loc) (ho' : HL), After w Im (fun q => ρ (swp a b q)) hin w' Im' ρ' ho' → After w Im ρ (HL.swap a b hin) w' Im' (fun q => ρ' (swp a b q)) (HL.swap a b ho') := fun w' Im' ρ' ho' A => by
    have hρ' : ∀ r, (fun q => ρ' (swp a b q)) (swp a b r) = ρ' r := fun r => by simp only [swp_swp]
    refine ⟨⟨A.grows.size, A.grows.os, A.grows.tape, A.grows.output, fun bk hb hn => A.grows.block bk hb fun h => hn (hT bk h)⟩, A.im, fun bk hb => ⟨(A.imn bk hb).1, (A.imn bk hb).2.imp id fun h => h.imp id (hT bk)⟩, ⟨fun r o hr => ?_, fun r r' o o' l l' h1 h2 hne g1 g2 => ?_⟩, fun r o hr l' hl' => ?_, fun r o hr q hq => ?_⟩
    · obtain ⟨o', h4, rfl⟩ := lkH_unswap hr
      obtain ⟨l, h5, h6, h7⟩ := A.rel.obj _ o' h4
      exact ⟨l, h5, h6.swap a b hρ', fun bk hb => ⟨(h7 bk hb).1, (h7 bk hb).2.1, (h7 bk hb).2.2.imp id (hT bk)⟩⟩
    · obtain ⟨o1, h4, _⟩ := lkH_unswap h1
      obtain ⟨o2, h5, _⟩ := lkH_unswap h2
      exact A.rel.dis _ _ o1 o2 l l' h4 h5 (fun e => hne (swp_inj e)) g1 g2
    · obtain ⟨o', h4, _⟩ := lkH_unswap hr
      obtain ⟨l, h5, h6⟩ := A.anc _ o' h4 l' hl'
      simp only [swp_swp] at h5
      exact ⟨l, h5, h6⟩
    · obtain ⟨o', h4, rfl⟩ := lkH_unswap hr
      rw [mentO_swap] at hq
      have := A.cl _ o' h4 _ hq
      rw [← swp_swp a b q, lkH_swap]
      simpa using this
  refine this.mono fun e mo w' hmo => ⟨hmo.1, ?_⟩
  have he := hmo.2
  cases e with
  | returned v =>
    obtain ⟨res', ho', Im', ρ', h1, h2, h3, A⟩ := he
    have hρ' : ∀ r, (fun q => ρ' (swp a b q)) (swp a b r) = ρ' r := fun r => by simp only [swp_swp]
    refine ⟨_, _, Im', fun q => ρ' (swp a b q), hr _ _ h1, h2.swap a b hρ', fun r hr => ?_, aft _ _ _ _ A⟩
    rw [ment_swap] at hr
    have := h3 _ hr
    rw [← swp_swp a b r, lkH_swap]
    simpa using this
  | panicked ch =>
    obtain ⟨ho', Im', ρ', h1, A⟩ := he
    exact ⟨_, Im', fun q => ρ' (swp a b q), hp _ _ h1, aft _ _ _ _ A⟩
  | outgrown => exact he

end Go.Ax

/- syntax's parser: a program, or that it failed. -/
namespace Go.Ax
open Go.Proofs
set_option maxRecDepth 10000

def zeroG : List D := [.v (.slice none 0 0), .i64 0, .i64 0, .u16 0, .v (.slice none 0 0), .v (.slice none 0 0)]
/-- The deferred function, where nothing is raised: it does nothing. -/
theorem quiet_ctr (g : GP) (cs ds : List D) : CtrD (ax g).E 140 [.ptr 9002 0, .ptr 9003 0] [(9002, some (.dvar 6 cs)), (9003, some (.dvar 1 ds))] .returning .returning (fun o => o = .ret (.tup []) [(9002, some (.dvar 6 cs)), (9003, some (.dvar 1 ds))]) := by
  refine CtrD.body (X := ax g) .nilIface (.d (.v .nilIface)) _ _ _ _ 17 [9002, 9003] [] 5 2 Tryd.func140 rfl rfl rfl rfl (by decide +kernel) rfl rfl rfl ⟨_, rfl⟩ rfl rfl rfl rfl rfl rfl rfl (.inl ⟨rfl, rfl, rfl⟩) (fun _ _ _ => RA.intv _ rfl) ?_
  conv => whnf
  repeat' (first | (refine And.intro (by first | exact rfl | decide | exact Nat.le_of_ble_eq_true rfl | exact ⟨_, rfl⟩ | exact ⟨_, _, rfl⟩ | exact Nat.le_refl _ | exact Int.le_refl _ | omega | (simp only [List.length_map]; omega) | exact True.intro | (simp only [IntKind.wrap_i64, List.length_map]; omega) | (simp only [List.map_cons, List.map_nil, List.length_cons, Option.getD]; omega) | (simp only [bsz, ByteArray.size_append, List.size_toArray, List.length_cons, List.length_nil]; omega) | exact ⟨⟨_, _, rfl, rfl, Nat.le_of_ble_eq_true rfl⟩, trivial⟩ | exact ⟨⟨_, _, rfl, rfl, Nat.le_of_ble_eq_true rfl⟩, ⟨_, _, rfl, rfl, Nat.le_of_ble_eq_true rfl⟩, trivial⟩ | exact ⟨⟨_, _, rfl, rfl, Nat.le_of_ble_eq_true rfl⟩, ⟨_, _, rfl, rfl, Nat.le_of_ble_eq_true rfl⟩, ⟨_, _, rfl, rfl, Nat.le_of_ble_eq_true rfl⟩, trivial⟩) ?_; conv => whnf) | (refine ifB_intro (fun hA => ?_) (fun hA => ?_) <;> (try rw [hA]) <;> (conv => whnf) <;> (first | replace hA := of_decide_eq_true hA | replace hA := of_decide_eq_false hA | replace hA := eq_of_beq hA | replace hA := ne_of_beq_false hA | replace hA := bne_iff_ne.1 hA | replace hA := bne_eq_false_iff_eq.1 hA | skip) <;> (try simp only [List.length_map, cond_true, cond_false, Bool.not_eq_true', Bool.not_eq_false', beq_iff_eq, beq_eq_false_iff_ne, ne_eq] at hA)) | (rw [getD_map _ _ _ _ (by assumption)]; conv => whnf))
  refine ⟨⟨[(9002, some (.dvar 6 cs)), (9003, some (.dvar 1 ds))], ?_⟩⟩
  conv => whnf
  refine And.intro ⟨fun o h => h, fun o h => h, trivial⟩ ?_
  first | rfl | trivial
/-- Where the parser gave up: what was raised is caught, the results are told anew. -/
theorem caught_ctr (g : GP) (cs ds : List D) : CtrD (ax g).E 140 [.ptr 9002 0, .ptr 9003 0] [(9002, some (.dvar 6 cs)), (9003, some (.dvar 1 ds))] (.panicking Failed) (.panicking [{ v := .iface 188 (.agg #[]), recovered := true }]) (fun o => o = .ret (.tup []) [(9002, some (.dvar 6 zeroG)), (9003, some (.dvar 1 [.v (.bool false)]))]) := by
  refine CtrD.body (X := ax g) (.iface 188 (.agg #[])) (.ifc 188 (.dagg [])) _ _ _ _ 17 [9002, 9003] [] 5 2 Tryd.func140 rfl rfl rfl rfl (by decide +kernel) rfl rfl rfl ⟨_, rfl⟩ rfl rfl rfl rfl rfl rfl rfl (.inr rfl) (fun _ _ _ => .ifc _ _ _ (.dagg _ _ rfl (by simp))) ?_
  conv => whnf
  repeat' (first | (refine And.intro (by first | exact rfl | decide | exact Nat.le_of_ble_eq_true rfl | exact ⟨_, rfl⟩ | exact ⟨_, _, rfl⟩ | exact Nat.le_refl _ | exact Int.le_refl _ | omega | (simp only []; omega) | exact True.intro | (simp only [IntKind.wrap_i64, List.length_map]; omega) | (simp only [List.map_cons, List.map_nil, List.length_cons, Option.getD]; omega) | (simp only [bsz, ByteArray.size_append, List.size_toArray, List.length_cons, List.length_nil]; omega) | exact ⟨⟨_, _, rfl, rfl, Nat.le_of_ble_eq_true rfl⟩, trivial⟩ | exact ⟨⟨_, _, rfl, rfl, Nat.le_of_ble_eq_true rfl⟩, ⟨_, _, rfl, rfl, Nat.le_of_ble_eq_true rfl⟩, trivial⟩ | exact ⟨⟨_, _, rfl, rfl, Nat.le_of_ble_eq_true rfl⟩, ⟨_, _, rfl, rfl, Nat.le_of_ble_eq_true rfl⟩, ⟨_, _, rfl, rfl, Nat.le_of_ble_eq_true rfl⟩, trivial⟩) ?_; conv => whnf) | (refine ifB_intro (fun hA => ?_) (fun hA => ?_) <;> (try rw [hA]) <;> (conv => whnf) <;> (first | replace hA := of_decide_eq_true hA | replace hA := of_decide_eq_false hA | replace hA := eq_of_beq hA | replace hA := ne_of_beq_false hA | replace hA := bne_iff_ne.1 hA | replace hA := bne_eq_false_iff_eq.1 hA | skip) <;> (try simp only [List.length_map, cond_true, cond_false, Bool.not_eq_true', Bool.not_eq_false', beq_iff_eq, beq_eq_false_iff_ne, ne_eq] at hA)) | (rw [getD_map _ _ _ _ (by assumption)]; conv => whnf))
  refine ⟨⟨[(9002, some (.dvar 6 zeroG)), (9003, some (.dvar 1 [.v (.bool false)]))], ?_⟩⟩
  conv => whnf
  refine And.intro ⟨fun o h => h, fun o h => h, trivial⟩ ?_
  first | rfl | trivial

abbrev resH (cs ds : List D) : HL := [(2, some (.dvar 6 cs)), (3, some (.dvar 1 ds))]
abbrev Caught : FrameMode := .panicking [{ v := .iface 188 (.agg #[]), recovered := true }]
theorem caught2 (g : GP) (cs ds : List D) : CtrD (ax g).E 140 [.ptr 2 0, .ptr 3 0] (resH cs ds) (.panicking Failed) Caught (fun o => o = .ret (.tup []) (resH zeroG [.v (.bool false)])) :=
  ((caught_ctr g cs ds).swapG 9002 2 (post' := fun o => o = .ret (.tup []) [(2, some (.dvar 6 zeroG)), (9003, some (.dvar 1 [.v (.bool false)]))]) (fun res ho h => by injection h with h1 h2; subst h1; subst h2; rfl) (fun ch ho h => by simp at h)).swapG 9003 3
    (fun res ho h => by injection h with h1 h2; subst h1; subst h2; rfl) (fun ch ho h => by simp at h)
theorem quiet2 (g : GP) (cs ds : List D) : CtrD (ax g).E 140 [.ptr 2 0, .ptr 3 0] (resH cs ds) .returning .returning (fun o => o = .ret (.tup []) (resH cs ds)) :=
  ((quiet_ctr g cs ds).swapG 9002 2 (post' := fun o => o = .ret (.tup []) [(2, some (.dvar 6 cs)), (9003, some (.dvar 1 ds))]) (fun res ho h => by injection h with h1 h2; subst h1; subst h2; rfl) (fun ch ho h => by simp at h)).swapG 9003 3
    (fun res ho h => by injection h with h1 h2; subst h1; subst h2; rfl) (fun ch ho h => by simp at h)
def readO : Option (ProgT × SP) → AOut
  | none => .ret (.tup [.dagg zeroG, .bool false]) []
  | some x => .ret (.tup [.dagg (rowG x.1), .bool true]) (spH x.2)
theorem read_ctr (g : GP) (N : Nat) (hN0 : N ≤ 100000) (p : SP) (hp : p.l.length ≤ N) (hk : ProgOk p) : Ctr (ax g).E 103 [.ptr 9000 0] (spH p) (fun o => o = readO (progS p)) := by
  have hpr := program_ctr g N hN0 p hp hk
  refine Ctr.recov (X := ax g) [_] _ _ _ _ 7 [9000, 9001] [.cell 2 34, .cell 3 4] 140 2 3 4 Tryd.func103 rfl rfl rfl rfl (by decide +kernel) rfl rfl rfl rfl ⟨_, rfl⟩ rfl rfl rfl rfl ?_
  conv => whnf
  repeat' (first | (refine And.intro (by first | exact rfl | decide | exact Nat.le_of_ble_eq_true rfl | exact ⟨_, rfl⟩ | exact ⟨_, _, rfl⟩ | exact Nat.le_refl _ | exact Int.le_refl _ | omega | (simp only [List.length_map]; omega) | exact True.intro | (simp only [IntKind.wrap_i64, List.length_map]; omega) | (simp only [List.map_cons, List.map_nil, List.length_cons, Option.getD]; omega) | (simp only [bsz, ByteArray.size_append, List.size_toArray, List.length_cons, List.length_nil]; omega) | exact ⟨⟨_, _, rfl, rfl, Nat.le_of_ble_eq_true rfl⟩, trivial⟩ | exact ⟨⟨_, _, rfl, rfl, Nat.le_of_ble_eq_true rfl⟩, ⟨_, _, rfl, rfl, Nat.le_of_ble_eq_true rfl⟩, trivial⟩ | exact ⟨⟨_, _, rfl, rfl, Nat.le_of_ble_eq_true rfl⟩, ⟨_, _, rfl, rfl, Nat.le_of_ble_eq_true rfl⟩, ⟨_, _, rfl, rfl, Nat.le_of_ble_eq_true rfl⟩, trivial⟩) ?_; conv => whnf) | (refine ifB_intro (fun hA => ?_) (fun hA => ?_) <;> (try rw [hA]) <;> (conv => whnf) <;> (first | replace hA := of_decide_eq_true hA | replace hA := of_decide_eq_false hA | replace hA := eq_of_beq hA | replace hA := ne_of_beq_false hA | replace hA := bne_iff_ne.1 hA | replace hA := bne_eq_false_iff_eq.1 hA | skip) <;> (try simp only [List.length_map, cond_true, cond_false, Bool.not_eq_true', Bool.not_eq_false', beq_iff_eq, beq_eq_false_iff_ne, ne_eq] at hA)) | (refine CallP.may (hpr) (by (conv => whnf); repeat' first | exact trivial | refine And.intro (fun _ h => h) ?_) (fun _ => rfl) (fun hN => ?_) (fun xS hS => ?_) <;> (conv => whnf) <;> (try refine ⟨⟨[], trivial, rfl, ?_⟩⟩)) | (rw [getD_map _ _ _ _ (by assumption)]; conv => whnf))
  · refine ⟨⟨resH zeroG [.v (.bool false)], resH zeroG [.v (.bool false)], Caught, caught2 g _ _, rfl, ?_, fun r o h => lkH_in rfl h, ?_⟩⟩
    · refine fun r o h => LeH.at (f' := resH _ _) ?_ r o h
      exact ⟨fun o h => h, fun o h => h, trivial⟩
    rw [hN]
    refine ⟨⟨[], ?_⟩⟩
    conv => whnf
    repeat' (first | (refine And.intro (by first | exact rfl | decide | exact Nat.le_of_ble_eq_true rfl | exact ⟨_, rfl⟩ | exact ⟨_, _, rfl⟩ | exact Nat.le_refl _ | exact Int.le_refl _ | omega | (simp only [List.length_map]; omega) | exact True.intro | (simp only [IntKind.wrap_i64, List.length_map]; omega) | (simp only [List.map_cons, List.map_nil, List.length_cons, Option.getD]; omega) | (simp only [bsz, ByteArray.size_append, List.size_toArray, List.length_cons, List.length_nil]; omega) | exact ⟨⟨_, _, rfl, rfl, Nat.le_of_ble_eq_true rfl⟩, trivial⟩ | exact ⟨⟨_, _, rfl, rfl, Nat.le_of_ble_eq_true rfl⟩, ⟨_, _, rfl, rfl, Nat.le_of_ble_eq_true rfl⟩, trivial⟩ | exact ⟨⟨_, _, rfl, rfl, Nat.le_of_ble_eq_true rfl⟩, ⟨_, _, rfl, rfl, Nat.le_of_ble_eq_true rfl⟩, ⟨_, _, rfl, rfl, Nat.le_of_ble_eq_true rfl⟩, trivial⟩) ?_; conv => whnf) | (refine ifB_intro (fun hA => ?_) (fun hA => ?_) <;> (try rw [hA]) <;> (conv => whnf) <;> (first | replace hA := of_decide_eq_true hA | replace hA := of_decide_eq_false hA | replace hA := eq_of_beq hA | replace hA := ne_of_beq_false hA | replace hA := bne_iff_ne.1 hA | replace hA := bne_eq_false_iff_eq.1 hA | skip) <;> (try simp only [List.length_map, cond_true, cond_false, Bool.not_eq_true', Bool.not_eq_false', beq_iff_eq, beq_eq_false_iff_ne, ne_eq] at hA)) | (rw [getD_map _ _ _ _ (by assumption)]; conv => whnf))
    rfl
  · refine ⟨⟨resH (rowG xS.1) [.v (.bool true)], resH (rowG xS.1) [.v (.bool true)], .returning, quiet2 g _ _, rfl, ?_, fun r o h => lkH_in rfl h, ?_⟩⟩
    · refine fun r o h => LeH.at (f' := resH _ _) ?_ r o h
      exact ⟨fun o h => h, fun o h => h, trivial⟩
    rw [hS]
    refine ⟨⟨spH xS.2, ?_⟩⟩
    conv => whnf
    repeat' (first | (refine And.intro (by first | exact rfl | decide | exact Nat.le_of_ble_eq_true rfl | exact ⟨_, rfl⟩ | exact ⟨_, _, rfl⟩ | exact Nat.le_refl _ | exact Int.le_refl _ | omega | (simp only []; omega) | exact True.intro | (simp only []; omega) | (simp only [List.map_cons, List.map_nil, List.length_cons]; omega) | (simp only [List.length_cons, List.length_nil]; omega) | exact ⟨⟨_, _, rfl, rfl, Nat.le_of_ble_eq_true rfl⟩, trivial⟩ | exact ⟨⟨_, _, rfl, rfl, Nat.le_of_ble_eq_true rfl⟩, ⟨_, _, rfl, rfl, Nat.le_of_ble_eq_true rfl⟩, trivial⟩ | exact ⟨⟨_, _, rfl, rfl, Nat.le_of_ble_eq_true rfl⟩, ⟨_, _, rfl, rfl, Nat.le_of_ble_eq_true rfl⟩, ⟨_, _, rfl, rfl, Nat.le_of_ble_eq_true rfl⟩, trivial⟩) ?_; conv => whnf) | (refine ifB_intro (fun hA => ?_) (fun hA => ?_) <;> (try rw [hA]) <;> (conv => whnf) <;> (first | replace hA := of_decide_eq_true hA | replace hA := of_decide_eq_false hA | replace hA := eq_of_beq hA | replace hA := ne_of_beq_false hA | replace hA := bne_iff_ne.1 hA | replace hA := bne_eq_false_iff_eq.1 hA | skip) <;> (try simp only [List.length_map, cond_true, cond_false, Bool.not_eq_true', Bool.not_eq_false', beq_iff_eq, beq_eq_false_iff_ne, ne_eq] at hA)) | (refine And.intro ⟨fun o h => h, fun o h => h, trivial⟩ ?_; conv => whnf) | (rw [getD_map _ _ _ _ (by assumption)]; conv => whnf))
    rfl

end Go.Ax

/- syntax's Parse. -/
namespace Go.Ax
open Go.Proofs Go.Lib
set_option maxRecDepth 10000

/-- A parser at its tokens. -/
def sp0 (l : List TokT) : SP := ⟨l ++ [noTok], ⟨_, rfl⟩, [], false, false⟩

def sp21H (p : SP) : HL := [(21, some (.var [.d (.sl false 3 (p.l.map rowK)), .mp 19, .bool p.unk, .bool p.twi])), (19, some (.map false (p.ns.map entN)))]
def spM (p : SP) : HL := [(21, some (objSP p)), (9001, some (.map false (p.ns.map entN)))]
def readAt (h : SP → HL) : Option (ProgT × SP) → AOut
  | none => .ret (.tup [.dagg zeroG, .bool false]) []
  | some x => .ret (.tup [.dagg (rowG x.1), .bool true]) (h x.2)
theorem readM (g : GP) (N : Nat) (hN0 : N ≤ 100000) (p : SP) (hp : p.l.length ≤ N) (hk : ProgOk p) : Ctr (ax g).E 103 [.ptr 21 0] (spM p) (fun o => o = readAt spM (progS p)) :=
  (read_ctr g N hN0 p hp hk).swapG 21 9000
    (fun res ho h => by
      cases hs : progS p with
      | none => rw [hs] at h; injection h with h1 h2; subst h1; subst h2; rfl
      | some x => rw [hs] at h; injection h with h1 h2; subst h1; subst h2; rfl)
    (fun ch ho h => by cases hs : progS p with
      | none => rw [hs] at h; exact absurd h (by simp [readO])
      | some x => rw [hs] at h; exact absurd h (by simp [readO]))
theorem read21 (g : GP) (N : Nat) (hN0 : N ≤ 100000) (p : SP) (hp : p.l.length ≤ N) (hk : ProgOk p) : Ctr (ax g).E 103 [.ptr 21 0] (sp21H p) (fun o => o = readAt sp21H (progS p)) :=
  (readM g N hN0 p hp hk).swapG 19 9001
    (fun res ho h => by
      cases hs : progS p with
      | none => rw [hs] at h; injection h with h1 h2; subst h1; subst h2; rfl
      | some x => rw [hs] at h; injection h with h1 h2; subst h1; subst h2; rfl)
    (fun ch ho h => by cases hs : progS p with
      | none => rw [hs] at h; exact absurd h (by simp [readAt])
      | some x => rw [hs] at h; exact absurd h (by simp [readAt]))

def resS : Option (ProgT × SP) → Option ProgT × Int
  | none => (none, 10)
  | some (x, q) => if q.unk = true then (none, 12) else if q.twi = true then (none, 11) else if checkP x = 0 then (some x, 0) else (none, checkP x)
def resAV : Option ProgT × Int → AV
  | (none, e) => .tup [.dagg zeroG, .i64 e]
  | (some x, e) => .tup [.dagg (rowG x), .i64 e]
def parseS (s : ByteArray) : Option ProgT × Int := match tokensF vS s with
  | (none, e) => (none, e)
  | (some m, _) => resS (progS (sp0 m.dropLast))
/-- What the walk asks of a text: its rules have their pairs in order; no machine holds more. -/
structure FitP (s : ByteArray) : Prop where
  ok : ∀ l e, tokensF vS s = (some (l ++ [noTok]), e) → ProgOk (sp0 l)
  small : ∀ l e, tokensF vS s = (some (l ++ [noTok]), e) → ∀ x q, progS (sp0 l) = some (x, q) → SmallG x

theorem tok_none5 {s : ByteArray} {e : Int} (hs : s.size ≤ 4000) (h : tokensF vS s = (none, e)) : e ≠ 0 := by
  rw [tokensF_T s hs] at h
  split at h
  · injection h with _ h; omega
  · rcases tokT_ends _ (chunks s.data.toList) [] (Nat.le_refl _) with ⟨k, g⟩ | ⟨f, g, hf⟩
    · rw [g] at h; exact absurd h (by simp)
    · rw [g] at h; injection h with _ h; omega
theorem tok_err {s : ByteArray} {e : Int} (h : tokensF vS s = (none, e)) : e ≠ 0 := by
  by_cases hs : s.size ≤ 4000
  · exact tok_none5 hs h
  · rw [tokensF, if_pos (by omega)] at h
    injection h with _ h; omega

theorem parse5_ctr (g : GP) (hg : ∀ w, g.G w → LibG w) (s : ByteArray) (hs : s.size < 2 ^ 62) (hf : FitP s) : Ctr (ax g).E 45 [.str s] [] (fun o => o = .ret (resAV (parseS s)) []) := by
  have ht := tokV_ctr g hg s hs
  refine Ctr.body (X := ax g) _ 47 [] [.cell 2 34, .tmp 3] Tryd.func45 rfl rfl rfl rfl (by decide +kernel) rfl rfl ?_
  conv => whnf
  cases hT : tokensF vS s with
  | mk l e =>
    rw [hT] at ht
    cases l with
    | none =>
      have he := tok_err hT
      have hP : parseS s = (none, e) := by rw [parseS, hT]
      rw [hP]
      repeat' (first | (refine And.intro (by first | exact rfl | decide | exact Nat.le_of_ble_eq_true rfl | exact ⟨_, rfl⟩ | exact ⟨_, _, rfl⟩ | exact Nat.le_refl _ | exact Int.le_refl _ | omega | (simp only []; omega) | exact True.intro | (simp only [IntKind.wrap_i64, List.length_map]; omega) | (simp only [List.map_cons, List.map_nil, List.length_cons, Option.getD]; omega) | (simp only [bsz, ByteArray.size_append, List.size_toArray, List.length_cons, List.length_nil]; omega) | exact ⟨⟨_, _, rfl, rfl, Nat.le_of_ble_eq_true rfl⟩, trivial⟩ | exact ⟨⟨_, _, rfl, rfl, Nat.le_of_ble_eq_true rfl⟩, ⟨_, _, rfl, rfl, Nat.le_of_ble_eq_true rfl⟩, trivial⟩ | exact ⟨⟨_, _, rfl, rfl, Nat.le_of_ble_eq_true rfl⟩, ⟨_, _, rfl, rfl, Nat.le_of_ble_eq_true rfl⟩, ⟨_, _, rfl, rfl, Nat.le_of_ble_eq_true rfl⟩, trivial⟩) ?_; conv => whnf) | (refine ifB_intro (fun hA => ?_) (fun hA => ?_) <;> (try rw [hA]) <;> (conv => whnf) <;> (first | replace hA := of_decide_eq_true hA | replace hA := of_decide_eq_false hA | replace hA := eq_of_beq hA | replace hA := ne_of_beq_false hA | replace hA := bne_iff_ne.1 hA | replace hA := bne_eq_false_iff_eq.1 hA | skip) <;> (try simp only [ne_eq] at hA)) | (refine CallP.det (ht) ?_; conv => whnf) | (refine CallD.det (ht) ?_; conv => whnf) | (rw [getD_map _ _ _ _ (by assumption)]; conv => whnf))
      all_goals first | exact absurd hA he | (refine ⟨⟨[], ?_⟩⟩; conv => whnf
                                              repeat' (first | (refine And.intro (by first | exact rfl | decide | exact Nat.le_of_ble_eq_true rfl | exact ⟨_, rfl⟩ | exact ⟨_, _, rfl⟩ | exact Nat.le_refl _ | exact Int.le_refl _ | omega | (simp only [List.length_map]; omega) | exact True.intro | (simp only [IntKind.wrap_i64, List.length_map]; omega) | (simp only [List.map_cons, List.map_nil, List.length_cons, Option.getD]; omega) | (simp only [bsz, ByteArray.size_append, List.size_toArray, List.length_cons, List.length_nil]; omega) | exact ⟨⟨_, _, rfl, rfl, Nat.le_of_ble_eq_true rfl⟩, trivial⟩ | exact ⟨⟨_, _, rfl, rfl, Nat.le_of_ble_eq_true rfl⟩, ⟨_, _, rfl, rfl, Nat.le_of_ble_eq_true rfl⟩, trivial⟩ | exact ⟨⟨_, _, rfl, rfl, Nat.le_of_ble_eq_true rfl⟩, ⟨_, _, rfl, rfl, Nat.le_of_ble_eq_true rfl⟩, ⟨_, _, rfl, rfl, Nat.le_of_ble_eq_true rfl⟩, trivial⟩) ?_; conv => whnf) | (refine ifB_intro (fun hA => ?_) (fun hA => ?_) <;> (try rw [hA]) <;> (conv => whnf) <;> (first | replace hA := of_decide_eq_true hA | replace hA := of_decide_eq_false hA | replace hA := eq_of_beq hA | replace hA := ne_of_beq_false hA | replace hA := bne_iff_ne.1 hA | replace hA := bne_eq_false_iff_eq.1 hA | skip) <;> (try simp only [List.length_map, cond_true, cond_false, Bool.not_eq_true', Bool.not_eq_false', beq_iff_eq, beq_eq_false_iff_ne, ne_eq] at hA)) | (rw [getD_map _ _ _ _ (by assumption)]; conv => whnf))
                                              rfl)
    | some m =>
      obtain ⟨he, hs4, l, rfl, hl⟩ := tok_some hT
      have hP : parseS s = resS (progS (sp0 l)) := by rw [parseS, hT]; simp
      have hk := hf.ok _ _ hT
      have hsm := hf.small _ _ hT
      have hr := read21 g 24001 (by decide) (sp0 l) (by simp [sp0]; omega) hk
      rw [hP]
      cases hS : progS (sp0 l) with
      | none =>
        rw [hS] at hr
        repeat' (first | (refine And.intro (by first | exact rfl | decide | exact Nat.le_of_ble_eq_true rfl | exact ⟨_, rfl⟩ | exact ⟨_, _, rfl⟩ | exact Nat.le_refl _ | exact Int.le_refl _ | omega | (simp only []; omega) | exact True.intro | (simp only []; omega) | (simp only [List.map_cons, List.map_nil, List.length_cons]; omega) | (simp only [List.length_cons, List.length_nil]; omega) | exact ⟨⟨_, _, rfl, rfl, Nat.le_of_ble_eq_true rfl⟩, trivial⟩ | exact ⟨⟨_, _, rfl, rfl, Nat.le_of_ble_eq_true rfl⟩, ⟨_, _, rfl, rfl, Nat.le_of_ble_eq_true rfl⟩, trivial⟩ | exact ⟨⟨_, _, rfl, rfl, Nat.le_of_ble_eq_true rfl⟩, ⟨_, _, rfl, rfl, Nat.le_of_ble_eq_true rfl⟩, ⟨_, _, rfl, rfl, Nat.le_of_ble_eq_true rfl⟩, trivial⟩) ?_; conv => whnf) | (refine ifB_intro (fun hA => ?_) (fun hA => ?_) <;> (try rw [hA]) <;> (conv => whnf) <;> (first | replace hA := of_decide_eq_true hA | replace hA := of_decide_eq_false hA | replace hA := eq_of_beq hA | replace hA := ne_of_beq_false hA | replace hA := bne_iff_ne.1 hA | replace hA := bne_eq_false_iff_eq.1 hA | skip) <;> (try simp only [ne_eq] at hA)) | (refine CallP.det (ht) ?_; conv => whnf) | (refine CallD.det (ht) ?_; conv => whnf) | (refine CallP.hlb (hr) (by (conv => whnf); repeat' first | exact trivial | refine And.intro (fun _ h => h) ?_) rfl ?_; conv => whnf) | (refine CallD.hlb (hr) (by (conv => whnf); repeat' first | exact trivial | refine And.intro (fun _ h => h) ?_) ?_; conv => whnf) | (rw [getD_map _ _ _ _ (by assumption)]; conv => whnf))
        all_goals first | exact absurd he hA | (refine ⟨⟨[], ?_⟩⟩; conv => whnf
                                                repeat' (first | (refine And.intro (by first | exact rfl | decide | exact Nat.le_of_ble_eq_true rfl | exact ⟨_, rfl⟩ | exact ⟨_, _, rfl⟩ | exact Nat.le_refl _ | exact Int.le_refl _ | omega | (simp only [List.length_map]; omega) | exact True.intro | (simp only [IntKind.wrap_i64, List.length_map]; omega) | (simp only [List.map_cons, List.map_nil, List.length_cons, Option.getD]; omega) | (simp only [bsz, ByteArray.size_append, List.size_toArray, List.length_cons, List.length_nil]; omega) | exact ⟨⟨_, _, rfl, rfl, Nat.le_of_ble_eq_true rfl⟩, trivial⟩ | exact ⟨⟨_, _, rfl, rfl, Nat.le_of_ble_eq_true rfl⟩, ⟨_, _, rfl, rfl, Nat.le_of_ble_eq_true rfl⟩, trivial⟩ | exact ⟨⟨_, _, rfl, rfl, Nat.le_of_ble_eq_true rfl⟩, ⟨_, _, rfl, rfl, Nat.le_of_ble_eq_true rfl⟩, ⟨_, _, rfl, rfl, Nat.le_of_ble_eq_true rfl⟩, trivial⟩) ?_; conv => whnf) | (refine ifB_intro (fun hA => ?_) (fun hA => ?_) <;> (try rw [hA]) <;> (conv => whnf) <;> (first | replace hA := of_decide_eq_true hA | replace hA := of_decide_eq_false hA | replace hA := eq_of_beq hA | replace hA := ne_of_beq_false hA | replace hA := bne_iff_ne.1 hA | replace hA := bne_eq_false_iff_eq.1 hA | skip) <;> (try simp only [List.length_map, cond_true, cond_false, Bool.not_eq_true', Bool.not_eq_false', beq_iff_eq, beq_eq_false_iff_ne, ne_eq] at hA)) | (rw [getD_map _ _ _ _ (by assumption)]; conv => whnf))
                                                rfl)
      | some xq =>
        obtain ⟨x, q⟩ := xq
        rw [hS] at hr
        have hc := check5_ctr g x (hsm x q hS)
        have r1 : q.unk = true → resS (some (x, q)) = (none, 12) := fun h => by simp [resS, h]
        have r2 : q.unk = false → q.twi = true → resS (some (x, q)) = (none, 11) := fun h h' => by simp [resS, h, h']
        have r3 : q.unk = false → q.twi = false → ¬checkP x = 0 → resS (some (x, q)) = (none, checkP x) := fun h h' h2 => by simp [resS, h, h', h2]
        have r4 : q.unk = false → q.twi = false → checkP x = 0 → resS (some (x, q)) = (some x, 0) := fun h h' h2 => by simp [resS, h, h', h2]
        repeat' (first | (refine And.intro (by first | exact rfl | decide | exact Nat.le_of_ble_eq_true rfl | exact ⟨_, rfl⟩ | exact ⟨_, _, rfl⟩ | exact Nat.le_refl _ | exact Int.le_refl _ | omega | (simp only []; omega) | exact True.intro | (simp only []; omega) | (simp only [List.map_cons, List.map_nil, List.length_cons]; omega) | (simp only [List.length_cons, List.length_nil]; omega) | exact ⟨⟨_, _, rfl, rfl, Nat.le_of_ble_eq_true rfl⟩, trivial⟩ | exact ⟨⟨_, _, rfl, rfl, Nat.le_of_ble_eq_true rfl⟩, ⟨_, _, rfl, rfl, Nat.le_of_ble_eq_true rfl⟩, trivial⟩ | exact ⟨⟨_, _, rfl, rfl, Nat.le_of_ble_eq_true rfl⟩, ⟨_, _, rfl, rfl, Nat.le_of_ble_eq_true rfl⟩, ⟨_, _, rfl, rfl, Nat.le_of_ble_eq_true rfl⟩, trivial⟩) ?_; conv => whnf) | (refine ifB_intro (fun hA => ?_) (fun hA => ?_) <;> (try rw [hA]) <;> (conv => whnf) <;> (first | replace hA := of_decide_eq_true hA | replace hA := of_decide_eq_false hA | replace hA := eq_of_beq hA | replace hA := ne_of_beq_false hA | replace hA := bne_iff_ne.1 hA | replace hA := bne_eq_false_iff_eq.1 hA | skip) <;> (try simp only [ne_eq] at hA)) | (refine CallP.det (ht) ?_; conv => whnf) | (refine CallD.det (ht) ?_; conv => whnf) | (refine CallP.hlb (hr) (by (conv => whnf); repeat' first | exact trivial | refine And.intro (fun _ h => h) ?_) rfl ?_; conv => whnf) | (refine CallD.hlb (hr) (by (conv => whnf); repeat' first | exact trivial | refine And.intro (fun _ h => h) ?_) ?_; conv => whnf) | (refine CallP.det (hc) ?_; conv => whnf) | (refine CallD.det (hc) ?_; conv => whnf) | (rw [getD_map _ _ _ _ (by assumption)]; conv => whnf))
        all_goals first
          | exact absurd he ‹_›
          | (rw [r1 ‹_›]
             refine ⟨⟨[], ?_⟩⟩; conv => whnf
             repeat' (first | (refine And.intro (by first | exact rfl | decide | exact Nat.le_of_ble_eq_true rfl | exact ⟨_, rfl⟩ | exact ⟨_, _, rfl⟩ | exact Nat.le_refl _ | exact Int.le_refl _ | omega | (simp only [List.length_map]; omega) | exact True.intro | (simp only [IntKind.wrap_i64, List.length_map]; omega) | (simp only [List.map_cons, List.map_nil, List.length_cons, Option.getD]; omega) | (simp only [bsz, ByteArray.size_append, List.size_toArray, List.length_cons, List.length_nil]; omega) | exact ⟨⟨_, _, rfl, rfl, Nat.le_of_ble_eq_true rfl⟩, trivial⟩ | exact ⟨⟨_, _, rfl, rfl, Nat.le_of_ble_eq_true rfl⟩, ⟨_, _, rfl, rfl, Nat.le_of_ble_eq_true rfl⟩, trivial⟩ | exact ⟨⟨_, _, rfl, rfl, Nat.le_of_ble_eq_true rfl⟩, ⟨_, _, rfl, rfl, Nat.le_of_ble_eq_true rfl⟩, ⟨_, _, rfl, rfl, Nat.le_of_ble_eq_true rfl⟩, trivial⟩) ?_; conv => whnf) | (refine ifB_intro (fun hA => ?_) (fun hA => ?_) <;> (try rw [hA]) <;> (conv => whnf) <;> (first | replace hA := of_decide_eq_true hA | replace hA := of_decide_eq_false hA | replace hA := eq_of_beq hA | replace hA := ne_of_beq_false hA | replace hA := bne_iff_ne.1 hA | replace hA := bne_eq_false_iff_eq.1 hA | skip) <;> (try simp only [List.length_map, cond_true, cond_false, Bool.not_eq_true', Bool.not_eq_false', beq_iff_eq, beq_eq_false_iff_ne, ne_eq] at hA)) | (rw [getD_map _ _ _ _ (by assumption)]; conv => whnf))
             rfl)
          | (rw [r2 ‹_› ‹_›]
             refine ⟨⟨[], ?_⟩⟩; conv => whnf
             repeat' (first | (refine And.intro (by first | exact rfl | decide | exact Nat.le_of_ble_eq_true rfl | exact ⟨_, rfl⟩ | exact ⟨_, _, rfl⟩ | exact Nat.le_refl _ | exact Int.le_refl _ | omega | (simp only [List.length_map]; omega) | exact True.intro | (simp only [IntKind.wrap_i64, List.length_map]; omega) | (simp only [List.map_cons, List.map_nil, List.length_cons, Option.getD]; omega) | (simp only [bsz, ByteArray.size_append, List.size_toArray, List.length_cons, List.length_nil]; omega) | exact ⟨⟨_, _, rfl, rfl, Nat.le_of_ble_eq_true rfl⟩, trivial⟩ | exact ⟨⟨_, _, rfl, rfl, Nat.le_of_ble_eq_true rfl⟩, ⟨_, _, rfl, rfl, Nat.le_of_ble_eq_true rfl⟩, trivial⟩ | exact ⟨⟨_, _, rfl, rfl, Nat.le_of_ble_eq_true rfl⟩, ⟨_, _, rfl, rfl, Nat.le_of_ble_eq_true rfl⟩, ⟨_, _, rfl, rfl, Nat.le_of_ble_eq_true rfl⟩, trivial⟩) ?_; conv => whnf) | (refine ifB_intro (fun hA => ?_) (fun hA => ?_) <;> (try rw [hA]) <;> (conv => whnf) <;> (first | replace hA := of_decide_eq_true hA | replace hA := of_decide_eq_false hA | replace hA := eq_of_beq hA | replace hA := ne_of_beq_false hA | replace hA := bne_iff_ne.1 hA | replace hA := bne_eq_false_iff_eq.1 hA | skip) <;> (try simp only [List.length_map, cond_true, cond_false, Bool.not_eq_true', Bool.not_eq_false', beq_iff_eq, beq_eq_false_iff_ne, ne_eq] at hA)) | (rw [getD_map _ _ _ _ (by assumption)]; conv => whnf))
             rfl)
          | (rw [r3 ‹_› ‹_› ‹_›]
             refine ⟨⟨[], ?_⟩⟩; conv => whnf
             repeat' (first | (refine And.intro (by first | exact rfl | decide | exact Nat.le_of_ble_eq_true rfl | exact ⟨_, rfl⟩ | exact ⟨_, _, rfl⟩ | exact Nat.le_refl _ | exact Int.le_refl _ | omega | (simp only [List.length_map]; omega) | exact True.intro | (simp only [IntKind.wrap_i64, List.length_map]; omega) | (simp only [List.map_cons, List.map_nil, List.length_cons, Option.getD]; omega) | (simp only [bsz, ByteArray.size_append, List.size_toArray, List.length_cons, List.length_nil]; omega) | exact ⟨⟨_, _, rfl, rfl, Nat.le_of_ble_eq_true rfl⟩, trivial⟩ | exact ⟨⟨_, _, rfl, rfl, Nat.le_of_ble_eq_true rfl⟩, ⟨_, _, rfl, rfl, Nat.le_of_ble_eq_true rfl⟩, trivial⟩ | exact ⟨⟨_, _, rfl, rfl, Nat.le_of_ble_eq_true rfl⟩, ⟨_, _, rfl, rfl, Nat.le_of_ble_eq_true rfl⟩, ⟨_, _, rfl, rfl, Nat.le_of_ble_eq_true rfl⟩, trivial⟩) ?_; conv => whnf) | (refine ifB_intro (fun hA => ?_) (fun hA => ?_) <;> (try rw [hA]) <;> (conv => whnf) <;> (first | replace hA := of_decide_eq_true hA | replace hA := of_decide_eq_false hA | replace hA := eq_of_beq hA | replace hA := ne_of_beq_false hA | replace hA := bne_iff_ne.1 hA | replace hA := bne_eq_false_iff_eq.1 hA | skip) <;> (try simp only [List.length_map, cond_true, cond_false, Bool.not_eq_true', Bool.not_eq_false', beq_iff_eq, beq_eq_false_iff_ne, ne_eq] at hA)) | (rw [getD_map _ _ _ _ (by assumption)]; conv => whnf))
             rfl)
          | (rw [r4 ‹_› ‹_› ‹_›]
             refine ⟨⟨[], ?_⟩⟩; conv => whnf
             repeat' (first | (refine And.intro (by first | exact rfl | decide | exact Nat.le_of_ble_eq_true rfl | exact ⟨_, rfl⟩ | exact ⟨_, _, rfl⟩ | exact Nat.le_refl _ | exact Int.le_refl _ | omega | (simp only [List.length_map]; omega) | exact True.intro | (simp only [IntKind.wrap_i64, List.length_map]; omega) | (simp only [List.map_cons, List.map_nil, List.length_cons, Option.getD]; omega) | (simp only [bsz, ByteArray.size_append, List.size_toArray, List.length_cons, List.length_nil]; omega) | exact ⟨⟨_, _, rfl, rfl, Nat.le_of_ble_eq_true rfl⟩, trivial⟩ | exact ⟨⟨_, _, rfl, rfl, Nat.le_of_ble_eq_true rfl⟩, ⟨_, _, rfl, rfl, Nat.le_of_ble_eq_true rfl⟩, trivial⟩ | exact ⟨⟨_, _, rfl, rfl, Nat.le_of_ble_eq_true rfl⟩, ⟨_, _, rfl, rfl, Nat.le_of_ble_eq_true rfl⟩, ⟨_, _, rfl, rfl, Nat.le_of_ble_eq_true rfl⟩, trivial⟩) ?_; conv => whnf) | (refine ifB_intro (fun hA => ?_) (fun hA => ?_) <;> (try rw [hA]) <;> (conv => whnf) <;> (first | replace hA := of_decide_eq_true hA | replace hA := of_decide_eq_false hA | replace hA := eq_of_beq hA | replace hA := ne_of_beq_false hA | replace hA := bne_iff_ne.1 hA | replace hA := bne_eq_false_iff_eq.1 hA | skip) <;> (try simp only [List.length_map, cond_true, cond_false, Bool.not_eq_true', Bool.not_eq_false', beq_iff_eq, beq_eq_false_iff_ne, ne_eq] at hA)) | (rw [getD_map _ _ _ _ (by assumption)]; conv => whnf))
             rfl)

end Go.Ax

/- syntax's awake. -/
namespace Go.Ax
open Go.Proofs Go.Lib
set_option maxRecDepth 100000

def riseB (l : List PairT) : Bool := alln (fun i => decide ((l.getD i (0, 0)).1 ≤ (l.getD (i + 1) (0, 0)).1)) (l.length - 1)
def okLB (l : List PairT) : Bool := decide (l.length < 20) && riseB l
def okRuB (r : RuleT) : Bool := okLB r.when && (okLB r.guard && okLB r.thn)
def rulesOkB : Nat → SP → Bool
  | 0, _ => true
  | n + 1, p => if (takeS onC p).1 = true then (match ruleS (takeS onC p).2 with
    | none => true
    | some (r, q) => okRuB r && rulesOkB n q) else true
def progOkB (p : SP) : Bool := match headS p with
  | none => true
  | some (_, b) => match mustS policyC b with
    | none => true
    | some c => match sumS c.l.length c with
      | none => true
      | some s => match mustS dotC s.2 with
        | none => true
        | some d => rulesOkB d.l.length d

theorem riseB_spec {l : List PairT} (h : riseB l = true) : Rise l := fun i hi => by
  have := alln_at h (show i < l.length - 1 by omega)
  simpa using this
theorem okRuB_spec {r : RuleT} (h : okRuB r = true) : OkRu r := by
  simp only [okRuB, okLB, Bool.and_eq_true, decide_eq_true_eq] at h
  exact ⟨⟨h.1.1, riseB_spec h.1.2⟩, ⟨h.2.1.1, riseB_spec h.2.1.2⟩, h.2.2.1, riseB_spec h.2.2.2⟩
theorem rulesOkB_spec : ∀ {n : Nat} {p : SP}, rulesOkB n p = true → RulesOk n p
  | 0, _, _ => trivial
  | n + 1, p, h => fun ht r q hr => by
    rw [rulesOkB, if_pos ht, hr] at h
    simp only [Bool.and_eq_true] at h
    exact ⟨okRuB_spec h.1, rulesOkB_spec h.2⟩
theorem progOkB_spec {p : SP} (h : progOkB p = true) : ProgOk p := fun i b hb c hc s hs d hd => by
  unfold progOkB at h
  simp only [hb, hc, hs, hd] at h
  exact rulesOkB_spec h

/-- A text whose tokens are told. -/
theorem FitP.of {s : ByteArray} {l : List TokT} (h : tokensF vS s = (some (l ++ [noTok]), 0)) (h1 : progOkB (sp0 l) = true) (h2 : ∀ x q, progS (sp0 l) = some (x, q) → SmallG x) : FitP s := by
  have key : ∀ l' e, tokensF vS s = (some (l' ++ [noTok]), e) → l' = l := fun l' e h' => by
    rw [h] at h'; injection h' with h' _; injection h' with h'
    exact (List.append_cancel_right h').symm
  refine ⟨fun l' e h' => ?_, fun l' e h' => ?_⟩
  · rw [key l' e h']; exact progOkB_spec h1
  · rw [key l' e h']; exact h2

def t5 : ByteArray := ⟨#[105, 110, 105, 116, 32, 48, 32, 46, 32, 108, 101, 116, 32, 119, 101, 98, 32, 61, 32, 56, 48, 32, 46, 32, 112, 111, 108, 105, 99, 121, 32, 64, 48, 61, 48, 32, 59, 32, 115, 118, 99, 61, 119, 101, 98, 32, 59, 32, 112, 116, 58, 61, 49, 32, 43, 32, 100, 114, 111, 112, 32, 46, 32, 111, 110, 32, 115, 119, 61, 49, 32, 38, 32, 112, 116, 61, 50, 32, 61, 62, 32, 64, 48, 58, 61, 49, 32, 46]⟩
def t6 : ByteArray := ⟨#[105, 110, 105, 116]⟩
def W (l : List UInt8) : TokT := ⟨1, ⟨l.toArray⟩, 0⟩
def Sg (l : List UInt8) : TokT := ⟨3, ⟨l.toArray⟩, 0⟩
def Nm (n : Int) : TokT := ⟨2, ⟨#[]⟩, n⟩
def l5 : List TokT := [W [105, 110, 105, 116], Nm 0, Sg [46], W [108, 101, 116], W [119, 101, 98], Sg [61], Nm 80, Sg [46], W [112, 111, 108, 105, 99, 121], Sg [64], Nm 0, Sg [61], Nm 0, Sg [59], W [115, 118, 99], Sg [61], W [119, 101, 98], Sg [59], W [112, 116], Sg [58, 61], Nm 1, Sg [43], W [100, 114, 111, 112], Sg [46],
  W [111, 110], W [115, 119], Sg [61], Nm 1, Sg [38], W [112, 116], Sg [61], Nm 2, Sg [61, 62], Sg [64], Nm 0, Sg [58, 61], Nm 1, Sg [46]]
def l6 : List TokT := [W [105, 110, 105, 116]]
theorem low_all {s : ByteArray} (h : s.data.toList.all (fun b => decide (b.toNat < 128)) = true) : vS s = true ∧ chunks s.data.toList = lowC s.data.toList := by
  have h1 : ∀ b ∈ s.data.toList, b.toNat < 128 := fun b hb => by simpa using List.all_eq_true.1 h b hb
  have h2 : chunks s.data.toList = lowC s.data.toList := low_chunks _ h1
  exact ⟨by rw [vS, valid_chunks, h2]; exact all_low _ h1, h2⟩
theorem tok_low {s : ByteArray} (hs : s.size ≤ 4000) (h : s.data.toList.all (fun b => decide (b.toNat < 128)) = true) : tokensF vS s = tokT (lowC s.data.toList) [] := by
  obtain ⟨h1, h2⟩ := low_all h
  rw [tokensF_T s hs, h1, if_neg (by simp), h2]
theorem tok5 : tokensF vS t5 = (some (l5 ++ [noTok]), 0) := by
  rw [tok_low (by decide) (by decide +kernel)]
  kernel_rfl
theorem tok6 : tokensF vS t6 = (some (l6 ++ [noTok]), 0) := by
  rw [tok_low (by decide) (by decide +kernel)]
  kernel_rfl

def p5 : ProgT := ⟨[0], .mk 7 0 0 [.mk 6 0 0 [.mk 3 0 0 [], .mk 2 5 80 [], .mk 5 1 1 []], .mk 0 0 0 []], [⟨[(0, 1), (1, 2)], [], [(0, 1)]⟩]⟩
theorem prog5 : ∃ q, progS (sp0 l5) = some (p5, q) ∧ q.unk = false ∧ q.twi = false := ⟨((progS (sp0 l5)).map (·.2)).getD (sp0 []), by kernel_rfl, by kernel_rfl, by kernel_rfl⟩
theorem prog6 : progS (sp0 l6) = none := by kernel_rfl
theorem parse5 : parseS t5 = (some p5, 0) := by
  obtain ⟨q, h1, h2, h3⟩ := prog5
  rw [parseS, tok5]
  simp only [List.dropLast_concat]
  rw [h1]
  simp only [resS, h2, h3]
  have : checkP p5 = 0 := by kernel_rfl
  rw [if_neg (by simp), if_neg (by simp), if_pos this]
theorem parse6 : parseS t6 = (none, 10) := by
  rw [parseS, tok6]
  simp only [List.dropLast_concat]
  rw [prog6]; rfl
theorem fit5 : FitP t5 := FitP.of tok5 (by kernel_rfl) fun x q h => by
  obtain ⟨q', h1, _⟩ := prog5
  rw [h1] at h; injection h with h; injection h with h; subst h
  exact ⟨by decide, by decide +kernel, by decide, fun r hr => by simp [p5] at hr; subst hr; exact ⟨by decide, by decide, by decide⟩⟩
theorem fit6 : FitP t6 := FitP.of tok6 (by kernel_rfl) fun x q h => by rw [prog6] at h; simp at h

theorem awake5_ctr (g : GP) (hg : ∀ w, g.G w → LibG w) : Ctr (ax g).E 36 [] [] (fun o => o = .ret (.bool true) []) := by
  have h5 := parse5_ctr g hg t5 (by decide) fit5
  have h6 := parse5_ctr g hg t6 (by decide) fit6
  rw [parse5] at h5
  rw [parse6] at h6
  have hs := size_ctr' g p5.pol (by decide +kernel)
  have hd := depth_ctr' g p5.pol (by decide +kernel)
  rw [show sizeP p5.pol = 6 from by kernel_rfl] at hs
  rw [show depthP p5.pol = 3 from by kernel_rfl] at hd
  refine Ctr.body (X := ax g) _ 49 [] [.tmp 0] Tryd.func36 rfl rfl rfl rfl (by decide +kernel) rfl rfl ?_
  conv => whnf
  repeat' (first | (refine And.intro (by first | exact rfl | decide | exact Nat.le_of_ble_eq_true rfl | exact ⟨_, rfl⟩ | exact ⟨_, _, rfl⟩ | exact Nat.le_refl _ | exact Int.le_refl _ | omega | (simp only [List.length_map]; omega) | exact True.intro | (simp only [IntKind.wrap_i64, List.length_map]; omega) | (simp only [List.map_cons, List.map_nil, List.length_cons, Option.getD]; omega) | (simp only [bsz, ByteArray.size_append, List.size_toArray, List.length_cons, List.length_nil]; omega) | exact ⟨⟨_, _, rfl, rfl, Nat.le_of_ble_eq_true rfl⟩, trivial⟩ | exact ⟨⟨_, _, rfl, rfl, Nat.le_of_ble_eq_true rfl⟩, ⟨_, _, rfl, rfl, Nat.le_of_ble_eq_true rfl⟩, trivial⟩ | exact ⟨⟨_, _, rfl, rfl, Nat.le_of_ble_eq_true rfl⟩, ⟨_, _, rfl, rfl, Nat.le_of_ble_eq_true rfl⟩, ⟨_, _, rfl, rfl, Nat.le_of_ble_eq_true rfl⟩, trivial⟩) ?_; conv => whnf) | (refine ifB_intro (fun hA => ?_) (fun hA => ?_) <;> (try rw [hA]) <;> (conv => whnf) <;> (first | replace hA := of_decide_eq_true hA | replace hA := of_decide_eq_false hA | replace hA := eq_of_beq hA | replace hA := ne_of_beq_false hA | replace hA := bne_iff_ne.1 hA | replace hA := bne_eq_false_iff_eq.1 hA | skip) <;> (try simp only [List.length_map, cond_true, cond_false, Bool.not_eq_true', Bool.not_eq_false', beq_iff_eq, beq_eq_false_iff_ne, ne_eq] at hA)) | (refine CallP.det (h5) ?_; conv => whnf) | (refine CallD.det (h5) ?_; conv => whnf) | (refine CallP.det (h6) ?_; conv => whnf) | (refine CallD.det (h6) ?_; conv => whnf) | (refine CallP.det (hs) ?_; conv => whnf) | (refine CallD.det (hs) ?_; conv => whnf) | (refine CallP.det (hd) ?_; conv => whnf) | (refine CallD.det (hd) ?_; conv => whnf) | (rw [getD_map _ _ _ _ (by assumption)]; conv => whnf))
  refine ⟨⟨[], ?_⟩⟩
  conv => whnf
  rfl

end Go.Ax
