import Derived.Test.YtjokajidcojlmaaDoorBAxTs
import Derived.Test.YtjokajidcojlmaaDoorBAxLv

/- topo.Parse. -/
namespace Go.Ax
open Go.Proofs Go.Lib
set_option maxRecDepth 10000

theorem msl_data {w : World} {Im Im2 : Nat → Prop} {ρ : Nat → Option Loc} {r sz : Nat} {el : TypeId} {els : List (List D)} {l : Loc} (hl : ρ r = some l) (hro : RO (hp w) Im ρ l (.buf sz el els)) (h1 : ∀ b, Im b → Im2 b) (h2 : ∀ b ∈ l.fp, Im2 b) {v : Value} {n : Nat} (hn : n = els.length) (H : RA (hp w) Im ρ v (.msl r n 0 n)) : RD (hp w) Im2 v (.sl false sz els) := by
  subst hn
  cases H with
  | msl _ _ _ _ _ _ hp2 =>
    have hv := (hp2 l hl).2 hro.2.2.2.1.symm
    rw [hv]
    have := RD.ofBuf hro h1 h2 (off := 0) (len := els.length) (by omega)
    rwa [List.drop_zero, List.take_of_length_le (Nat.le_refl _)] at this

/-- Check is given the buffers: behind it the topology is data. -/
theorem check_gives (g : GP) (t : TopoT) : Ctr (ax g).E 30 [.agg [.msl 9002 t.sw.length 0 t.sw.length, .msl 9003 t.links.length 0 t.links.length, .msl 9004 t.hosts.length 0 t.hosts.length]] (topoH t) (fun o => o = .ret (.i64 (checkF t)) [(9001, some (.dvar 3 (rowT t)))]) := by
  have hc := check_ctr g t
  refine ⟨hc.1, fun w Im ρ vs hG hIm hgl hsz hra hrel => ?_⟩
  obtain ⟨l1, hl1, hro1, hown1⟩ := hrel.obj 9001 (tvO t) rfl
  obtain ⟨l2, hl2, hro2, hown2⟩ := hrel.obj 9002 (.buf 1 26 (t.sw.map rowS)) rfl
  obtain ⟨l3, hl3, hro3, hown3⟩ := hrel.obj 9003 (.buf 4 64 (t.links.map rowL)) rfl
  obtain ⟨l4, hl4, hro4, hown4⟩ := hrel.obj 9004 (.buf 2 63 (t.hosts.map rowP)) rfl
  have n2 := hrel.dis 9001 9002 _ _ l1 l2 rfl rfl (by decide) hl1 hl2
  have n3 := hrel.dis 9001 9003 _ _ l1 l3 rfl rfl (by decide) hl1 hl3
  have n4 := hrel.dis 9001 9004 _ _ l1 l4 rfl rfl (by decide) hl1 hl4
  have hi : ∀ b, Im b → (Im b ∨ b ∈ l2.fp ∨ b ∈ l3.fp ∨ b ∈ l4.fp) := fun b h => .inl h
  have rel : ∀ (i : Nat) (v : Value) (x : AV) (y : D), RA (hp w) Im ρ v x → ([AV.msl 9002 t.sw.length 0 t.sw.length, .msl 9003 t.links.length 0 t.links.length, .msl 9004 t.hosts.length 0 t.hosts.length] : List AV)[i]? = some x → (rowT t)[i]? = some y → RD (hp w) (fun b => Im b ∨ b ∈ l2.fp ∨ b ∈ l3.fp ∨ b ∈ l4.fp) v y := fun i v x y H hx hy => by
    match i, hx, hy with
    | 0, hx, hy =>
      injection hx with hx; injection hy with hy; subst hx; subst hy
      exact msl_data hl2 hro2 hi (fun b hb => .inr (.inl hb)) (List.length_map ..).symm H
    | 1, hx, hy =>
      injection hx with hx; injection hy with hy; subst hx; subst hy
      exact msl_data hl3 hro3 hi (fun b hb => .inr (.inr (.inl hb))) (List.length_map ..).symm H
    | 2, hx, hy =>
      injection hx with hx; injection hy with hy; subst hx; subst hy
      exact msl_data hl4 hro4 hi (fun b hb => .inr (.inr (.inr hb))) (List.length_map ..).symm H
    | n + 3, hx, hy => simp at hx
  have hTin : ∀ b, b ∈ l2.fp ∨ b ∈ l3.fp ∨ b ∈ l4.fp → TIn ρ (topoH t) b := fun b hb => by
    rcases hb with hb | hb | hb
    · exact ⟨9002, _, l2, rfl, hl2, hb⟩
    · exact ⟨9003, _, l3, rfl, hl3, hb⟩
    · exact ⟨9004, _, l4, rfl, hl4, hb⟩
  have hlt : ∀ b, (Im b ∨ b ∈ l2.fp ∨ b ∈ l3.fp ∨ b ∈ l4.fp) → b < w.heap.size := fun b hb => by
    rcases hb with hb | hb | hb | hb
    · exact hIm b hb
    · exact (hown2 b hb).1
    · exact (hown3 b hb).1
    · exact (hown4 b hb).1
  have hT : ∀ b, TIn (fun _ => none) [] b → False := fun b ⟨r, o, l, h, _⟩ => by simp [lkH] at h
  have key := hc.2 w (fun b => Im b ∨ b ∈ l2.fp ∨ b ∈ l3.fp ∨ b ∈ l4.fp) (fun _ => none) vs hG hlt (fun b hb => .inl (hgl b hb)) (by simpa using hsz) (fun i v x h1 h2 => by
    match i, h2 with
    | 0, h2 =>
      injection h2 with h2; subst h2
      have H := hra 0 v _ h1 rfl
      cases H with
      | agg cs _ hl hr =>
        refine .dagg cs _ hl fun j u y e1 e2 => ?_
        obtain ⟨x, hx⟩ : ∃ x, ([AV.msl 9002 t.sw.length 0 t.sw.length, .msl 9003 t.links.length 0 t.links.length, .msl 9004 t.hosts.length 0 t.hosts.length] : List AV)[j]? = some x := by
          have : j < (rowT t).length := (List.getElem?_eq_some_iff.1 e2).1
          exact ⟨_, List.getElem?_eq_getElem (by exact this)⟩
        exact rel j u x y (hr j u x e1 hx) hx e2
    | n + 1, h2 => simp at h2) ⟨fun r o h => by simp [lkH] at h, fun r r' o o' l l' h => by simp [lkH] at h⟩
  refine key.mono fun e w' he => ?_
  cases e with
  | returned v =>
    obtain ⟨res', ho, Im', ρ', h1, h2, h3, A⟩ := he
    injection h1 with e1 e2; subst e1; subst e2
    have e9 : upd (fun _ => none) 9001 (some l1) 9001 = some l1 := upd_same ..
    obtain ⟨q1, q2, b, ms, T, q3, q4, q5, q6⟩ := hro1
    have hb1 : b ∈ l1.fp := by simp [Loc.fp, q3]
    have hfp : ∀ k ∈ l1.fp, k = b := fun k hk => by simpa [Loc.fp, q3, q2] using hk
    have hbn : ¬ Im' b := fun hb => by
      obtain ⟨_, g2⟩ := A.imn b hb
      have := (hown1 b hb1).1
      rcases g2 with (g2 | g2 | g2 | g2) | g2 | g2
      · exact (hown1 b hb1).2.1 g2
      · exact n2 b hb1 g2
      · exact n3 b hb1 g2
      · exact n4 b hb1 g2
      · omega
      · exact hT b g2
    refine ⟨_, [(9001, some (.dvar 3 (rowT t)))], Im', upd (fun _ => none) 9001 (some l1), rfl, ra_nom h2 (fun r => rfl), fun r hr => by simp [AV.ment] at hr, ⟨A.grows.size, A.grows.os, A.grows.tape, A.grows.output, fun k hk hn => A.grows.block k hk fun h => hT k h⟩, fun k hk => A.im k (.inl hk), fun k hk => ?_, ⟨fun r o hr => ?_, fun r r' o o' l l' hr hr' hne => absurd ((lkH_one hr).1.trans (lkH_one hr').1.symm) hne⟩, fun r o hr l' hl' => ?_, fun r o hr => ?_⟩
    · obtain ⟨g1, g2⟩ := A.imn k hk
      refine ⟨g1, ?_⟩
      rcases g2 with (g2 | g2) | g2 | g2
      · exact .inl g2
      · exact .inr (.inr (hTin k g2))
      · exact .inr (.inl g2)
      · exact (hT k g2).elim
    · obtain ⟨rfl, rfl⟩ := lkH_one hr
      refine ⟨l1, e9, ⟨q1, q2, rfl, b, ms, T, q3, ?_, q5, fun i v hv y hy => ?_⟩, fun k hk => ?_⟩
      · show w'.heap[b]? = _
        rw [A.grows.block b (hown1 b hb1).1 fun h => hT b h]; exact q4
      · obtain ⟨x, hx⟩ : ∃ x, ([AV.msl 9002 t.sw.length 0 t.sw.length, .msl 9003 t.links.length 0 t.links.length, .msl 9004 t.hosts.length 0 t.hosts.length] : List AV)[i]? = some x := by
          have : i < (rowT t).length := (List.getElem?_eq_some_iff.1 hy).1
          exact ⟨_, List.getElem?_eq_getElem (by exact this)⟩
        exact (rel i v x y (q6 i v hv x hx).1 hx hy).mono A.im fun k hk => A.grows.block k (hlt k hk) fun h => hT k h
      · have := hfp k hk; subst this
        exact ⟨Nat.lt_of_lt_of_le (hown1 k hk).1 A.grows.size, hbn, .inr ⟨9001, _, l1, rfl, hl1, hk⟩⟩
    · by_cases h9 : r = 9001
      · subst h9
        rw [e9] at hl'; injection hl' with hl'; subst hl'
        exact ⟨l1, hl1, .inl rfl⟩
      · rw [upd_ne _ _ h9] at hl'; simp at hl'
    · obtain ⟨rfl, rfl⟩ := lkH_one hr
      intro q hq; simp [AObj.ment] at hq
  | panicked ch =>
    obtain ⟨ho, Im', ρ', h1, h4⟩ := he
    exact absurd h1 (by simp)
  | outgrown => exact he

def loopF : Nat → PS → TopoT → PS × TopoT
  | 0, p, t => (p, t)
  | f + 1, p, t => if ((hd p.l).kind != 0 && !p.bad) = true then loopF f (statF p t).1 (statF p t).2 else (p, t)
def noT : TopoT := ⟨[], [], []⟩
def parseF (s : ByteArray) : Option TopoT × Int :=
  match tokensF vS s with
  | (none, e) => (none, e)
  | (some l, _) =>
    let r := loopF (2 * l.length + 2) ⟨l, false⟩ noT
    if r.1.bad then (none, 10) else if (checkF r.2 != 0) = true then (none, checkF r.2) else (some r.2, 0)
def rowZ : List D := [.v (.slice none 0 0), .v (.slice none 0 0), .v (.slice none 0 0)]
def parseAV : Option TopoT × Int → AV
  | (some t, e) => .tup [.dagg (rowT t), .i64 e]
  | (none, e) => .tup [.dagg rowZ, .i64 e]

theorem parse_ctr (g : GP) (hg : ∀ w, g.G w → LibG w) (s : ByteArray) (hs : s.size < 2 ^ 62) : Ctr (ax g).E 32 [.str s] [] (fun o => o = .ret (parseAV (parseF s)) []) := by
  refine Ctr.body (X := ax g) _ 50 [] [.cell 2 55, .tmp 3] Tryd.func32 rfl rfl rfl rfl (by decide +kernel) rfl rfl ?_
  conv => whnf
  repeat (refine And.intro (by first | exact rfl | decide | exact Nat.le_of_ble_eq_true rfl | exact ⟨_, rfl⟩ | exact ⟨_, _, rfl⟩ | exact Nat.le_refl _ | exact Int.le_refl _ | omega | (simp only [List.length_map]; omega)) ?_; conv => whnf)
  refine CallP.det (tokV_ctr g hg s hs) ?_
  cases hA : tokensF vS s with
  | mk m e =>
  cases m with
  | none =>
    have he : (e != 0) = true := by
      have : e ≠ 0 := by
        rcases Nat.lt_or_ge 4000 s.size with h | h
        · rw [tokensF, if_pos h] at hA
          injection hA with _ h2; omega
        · exact tok_none h hA
      simpa [bne] using this
    have hF : parseF s = (none, e) := by rw [parseF, hA]
    rw [hF]
    conv => whnf
    refine ifB_intro (fun h => ?_) (fun h => ?_)
    · conv => whnf
      refine And.intro trivial ?_
      conv => whnf
      repeat (refine And.intro (by first | exact rfl | decide | exact Nat.le_of_ble_eq_true rfl | exact ⟨_, rfl⟩ | exact ⟨_, _, rfl⟩ | exact Nat.le_refl _ | exact Int.le_refl _ | omega | (simp only [List.length_map]; omega)) ?_; conv => whnf)
      refine ⟨⟨[], ?_⟩⟩
      conv => whnf
      repeat (refine And.intro (by first | exact rfl | decide | exact Nat.le_of_ble_eq_true rfl | exact ⟨_, rfl⟩ | exact ⟨_, _, rfl⟩ | exact Nat.le_refl _ | exact Int.le_refl _ | omega | (simp only [List.length_map]; omega)) ?_; conv => whnf)
      rfl
    · have h : (e != 0) = false := h
      rw [h] at he; exact absurd he (by simp)
  | some l =>
    obtain ⟨rfl, hs4, l0, hl, hok, hw1, hw2⟩ := tok_some hA
    have hE : EndsOk l := ⟨l0, hl⟩
    have hlen : l.length ≤ 24001 := by rw [hl, List.length_append]; show l0.length + 1 ≤ _; omega
    have hF : parseF s = (if (loopF (2 * l.length + 2) ⟨l, false⟩ noT).1.bad then (none, 10) else if (checkF (loopF (2 * l.length + 2) ⟨l, false⟩ noT).2 != 0) = true then (none, checkF (loopF (2 * l.length + 2) ⟨l, false⟩ noT).2) else (some (loopF (2 * l.length + 2) ⟨l, false⟩ noT).2, 0)) := by rw [parseF, hA]
    conv => whnf
    repeat (refine And.intro (by first | exact rfl | decide | exact Nat.le_of_ble_eq_true rfl | exact ⟨_, rfl⟩ | exact ⟨_, _, rfl⟩ | exact Nat.le_refl _ | exact Int.le_refl _ | omega | (simp only [List.length_map]; omega)) ?_; conv => whnf)
    refine And.intro ⟨⟨_, _, rfl, rfl, Nat.le_of_ble_eq_true rfl⟩, trivial⟩ ?_
    conv => whnf
    repeat (refine And.intro (by first | exact rfl | decide | exact Nat.le_of_ble_eq_true rfl | exact ⟨_, rfl⟩ | exact ⟨_, _, rfl⟩ | exact Nat.le_refl _ | exact Int.le_refl _ | omega | (simp only [List.length_map]; omega)) ?_; conv => whnf)
    refine LoopP.asVar 6 3 rowZ rfl ?_
    refine LoopP.ownCell 6 0 9002 1 26 (rowZ.map .d) rfl rfl rfl ?_
    refine LoopP.ownCell 6 1 9003 4 64 _ rfl rfl rfl ?_
    refine LoopP.ownCell 6 2 9004 2 63 _ rfl rfl rfl ?_
    refine LoopP.inv (X := ax g) (fun x : PS × TopoT => { f := [(2, .ptr 2 0), (3, .i64 0), (6, .ptr 6 0), (7, .ptr 20 0)], h := [(2, some (.dvar 3 rowZ)), (20, some (objS x.1)), (6, some (tvO x.2)), (9002, some (.buf 1 26 (x.2.sw.map rowS))), (9003, some (.buf 4 64 (x.2.links.map rowL))), (9004, some (.buf 2 63 (x.2.hosts.map rowP)))] })
      (fun x => EndsOk x.1.l ∧ (∃ f, psM x.1 < f ∧ loopF f x.1 x.2 = loopF (2 * l.length + 2) ⟨l, false⟩ noT) ∧ x.2.sw.length + x.1.l.length ≤ 30000 ∧ x.2.links.length + x.1.l.length ≤ 30000 ∧ x.2.hosts.length + x.1.l.length ≤ 30000) (fun x => psM x.1) (⟨l, false⟩, noT)
      ⟨hE, ⟨_, by show 2 * l.length + 1 < _; omega, rfl⟩, by show 0 + l.length ≤ _; omega, by show 0 + l.length ≤ _; omega, by show 0 + l.length ≤ _; omega⟩ ⟨⟨rfl, rfl, rfl, rfl, trivial⟩, ⟨fun o h => h, fun o h => h, fun o h => h, fun o h => h, fun o h => h, fun o h => h, trivial⟩⟩ fun ⟨q, t⟩ ⟨i1, ⟨f, i2, i3⟩, i4, i5, i6⟩ => ?_
    have i1 : EndsOk q.l := i1
    have i2 : psM q < f := i2
    have i3 : loopF f q t = loopF (2 * l.length + 2) ⟨l, false⟩ noT := i3
    have i4 : t.sw.length + q.l.length ≤ 30000 := i4
    have i5 : t.links.length + q.l.length ≤ 30000 := i5
    have i6 : t.hosts.length + q.l.length ≤ 30000 := i6
    obtain ⟨t0, r, hr⟩ := i1.cons
    obtain ⟨f, rfl⟩ : ∃ f', f = f' + 1 := ⟨f - 1, by omega⟩
    obtain ⟨ql, qb⟩ := q
    have hr : ql = t0 :: r := hr
    subst hr
    conv => whnf
    repeat (refine And.intro (by first | exact rfl | decide | exact Nat.le_of_ble_eq_true rfl | exact ⟨_, rfl⟩ | exact ⟨_, _, rfl⟩ | exact Nat.le_refl _ | exact Int.le_refl _ | omega | (simp only [List.length_map]; omega)) ?_; conv => whnf)
    refine And.intro (by show (0 : Int) < (((t0 :: r).map rowK).length : Int); simp) ?_
    conv => whnf
    repeat (refine And.intro (by first | exact rfl | decide | exact Nat.le_of_ble_eq_true rfl | exact ⟨_, rfl⟩ | exact ⟨_, _, rfl⟩ | exact Nat.le_refl _ | exact Int.le_refl _ | omega | (simp only [List.length_map]; omega)) ?_; conv => whnf)
    have hbad : loopF (f + 1) ⟨t0 :: r, qb⟩ t = (⟨t0 :: r, qb⟩, t) → qb = true → parseF s = (none, 10) := fun e1 e2 => by
      rw [hF, ← i3, e1]; show (if qb = true then _ else _) = _; rw [if_pos e2]
    have hgood : loopF (f + 1) ⟨t0 :: r, qb⟩ t = (⟨t0 :: r, qb⟩, t) → qb = false → parseF s = (if (checkF t != 0) = true then (none, checkF t) else (some t, 0)) := fun e1 e2 => by
      rw [hF, ← i3, e1]; show (if qb = true then _ else _) = _; rw [if_neg (by rw [e2]; simp)]
    refine ifB_intro (fun h => ?_) (fun h => ?_)
    · rw [h]
      have hk : (t0.kind != 0) = true := h
      cases qb with
      | true =>
        have hx : loopF (f + 1) ⟨t0 :: r, true⟩ t = (⟨t0 :: r, true⟩, t) := by
          rw [loopF, if_neg (by simp)]
        conv => whnf
        repeat (refine And.intro (by first | exact rfl | decide | exact Nat.le_of_ble_eq_true rfl | exact ⟨_, rfl⟩ | exact ⟨_, _, rfl⟩ | exact Nat.le_refl _ | exact Int.le_refl _ | omega | (simp only [List.length_map]; omega)) ?_; conv => whnf)
        refine And.intro trivial ?_
        conv => whnf
        repeat (refine And.intro (by first | exact rfl | decide | exact Nat.le_of_ble_eq_true rfl | exact ⟨_, rfl⟩ | exact ⟨_, _, rfl⟩ | exact Nat.le_refl _ | exact Int.le_refl _ | omega | (simp only [List.length_map]; omega)) ?_; conv => whnf)
        refine ⟨⟨[], ?_⟩⟩
        rw [hbad hx rfl]
        conv => whnf
        repeat (refine And.intro (by first | exact rfl | decide | exact Nat.le_of_ble_eq_true rfl | exact ⟨_, rfl⟩ | exact ⟨_, _, rfl⟩ | exact Nat.le_refl _ | exact Int.le_refl _ | omega | (simp only [List.length_map]; omega)) ?_; conv => whnf)
        rfl
      | false =>
        have hx : loopF (f + 1) ⟨t0 :: r, false⟩ t = loopF f (statF ⟨t0 :: r, false⟩ t).1 (statF ⟨t0 :: r, false⟩ t).2 := by
          rw [loopF, if_pos]; show ((t0.kind != 0) && _) = true; rw [hk]; rfl
        obtain ⟨j1, j2, j3, j4, j5⟩ := statF_ok (p := ⟨t0 :: r, false⟩) (t := t) i1 rfl
        have hcs := stat_ctr g ⟨t0 :: r, false⟩ t i1 i4 i5 i6
        generalize statF ⟨t0 :: r, false⟩ t = S at hx j1 j2 j3 j4 j5 hcs
        obtain ⟨sp, st⟩ := S
        have j1 : EndsOk sp.l := j1
        have j2 : psM sp < psM ⟨t0 :: r, false⟩ := j2
        have j3 : st.sw.length + sp.l.length ≤ t.sw.length + (t0 :: r).length := j3
        have j4 : st.links.length + sp.l.length ≤ t.links.length + (t0 :: r).length := j4
        have j5 : st.hosts.length + sp.l.length ≤ t.hosts.length + (t0 :: r).length := j5
        have i4 : t.sw.length + (t0 :: r).length ≤ 30000 := i4
        have i5 : t.links.length + (t0 :: r).length ≤ 30000 := i5
        have i6 : t.hosts.length + (t0 :: r).length ≤ 30000 := i6
        have hx : loopF (f + 1) ⟨t0 :: r, false⟩ t = loopF f sp st := hx
        conv => whnf
        repeat (refine And.intro (by first | exact rfl | decide | exact Nat.le_of_ble_eq_true rfl | exact ⟨_, rfl⟩ | exact ⟨_, _, rfl⟩ | exact Nat.le_refl _ | exact Int.le_refl _ | omega | (simp only [List.length_map]; omega)) ?_; conv => whnf)
        refine CallP.hl _ _ ?_ ?_ ((hcs.swap 20 9000).swap 6 9001) ?_
        · exact ⟨fun o h => h, fun o h => h, fun o h => h, fun o h => h, fun o h => h, trivial⟩
        · rfl
        conv => whnf
        exact ⟨(sp, st), ⟨j1, ⟨f, by show psM sp < f; omega, by show loopF f sp st = _; rw [← hx, i3]⟩, by show st.sw.length + sp.l.length ≤ _; omega, by show st.links.length + sp.l.length ≤ _; omega, by show st.hosts.length + sp.l.length ≤ _; omega⟩, j2, ⟨⟨rfl, rfl, rfl, rfl, trivial⟩, ⟨fun o h => h, fun o h => h, fun o h => h, fun o h => h, fun o h => h, fun o h => h, trivial⟩⟩⟩
    · rw [h]
      have hk : (t0.kind != 0) = false := h
      have hx : loopF (f + 1) ⟨t0 :: r, qb⟩ t = (⟨t0 :: r, qb⟩, t) := by
        rw [loopF, if_neg]; show ¬ ((t0.kind != 0) && _) = true; rw [hk]; simp
      cases qb with
      | true =>
        conv => whnf
        repeat (refine And.intro (by first | exact rfl | decide | exact Nat.le_of_ble_eq_true rfl | exact ⟨_, rfl⟩ | exact ⟨_, _, rfl⟩ | exact Nat.le_refl _ | exact Int.le_refl _ | omega | (simp only [List.length_map]; omega)) ?_; conv => whnf)
        refine And.intro trivial ?_
        conv => whnf
        repeat (refine And.intro (by first | exact rfl | decide | exact Nat.le_of_ble_eq_true rfl | exact ⟨_, rfl⟩ | exact ⟨_, _, rfl⟩ | exact Nat.le_refl _ | exact Int.le_refl _ | omega | (simp only [List.length_map]; omega)) ?_; conv => whnf)
        refine ⟨⟨[], ?_⟩⟩
        rw [hbad hx rfl]
        conv => whnf
        repeat (refine And.intro (by first | exact rfl | decide | exact Nat.le_of_ble_eq_true rfl | exact ⟨_, rfl⟩ | exact ⟨_, _, rfl⟩ | exact Nat.le_refl _ | exact Int.le_refl _ | omega | (simp only [List.length_map]; omega)) ?_; conv => whnf)
        rfl
      | false =>
        conv => whnf
        repeat (refine And.intro (by first | exact rfl | decide | exact Nat.le_of_ble_eq_true rfl | exact ⟨_, rfl⟩ | exact ⟨_, _, rfl⟩ | exact Nat.le_refl _ | exact Int.le_refl _ | omega | (simp only [List.length_map]; omega)) ?_; conv => whnf)
        refine CallP.hl _ _ ?_ ?_ ((check_gives g t).swap 6 9001) ?_
        · exact ⟨fun o h => h, fun o h => h, fun o h => h, fun o h => h, trivial⟩
        · rfl
        have hg2 := hgood hx rfl
        generalize checkF t = ck at hg2
        conv => whnf
        refine ifB_intro (fun h2 => ?_) (fun h2 => ?_)
        · have h2 : (ck != 0) = true := h2
          rw [if_pos h2] at hg2
          conv => whnf
          refine And.intro trivial ?_
          conv => whnf
          repeat (refine And.intro (by first | exact rfl | decide | exact Nat.le_of_ble_eq_true rfl | exact ⟨_, rfl⟩ | exact ⟨_, _, rfl⟩ | exact Nat.le_refl _ | exact Int.le_refl _ | omega | (simp only [List.length_map]; omega)) ?_; conv => whnf)
          refine ⟨⟨[], ?_⟩⟩
          rw [hg2]
          conv => whnf
          repeat (refine And.intro (by first | exact rfl | decide | exact Nat.le_of_ble_eq_true rfl | exact ⟨_, rfl⟩ | exact ⟨_, _, rfl⟩ | exact Nat.le_refl _ | exact Int.le_refl _ | omega | (simp only [List.length_map]; omega)) ?_; conv => whnf)
          rfl
        · have h2 : (ck != 0) = false := h2
          rw [if_neg (by rw [h2]; simp)] at hg2
          conv => whnf
          repeat (refine And.intro (by first | exact rfl | decide | exact Nat.le_of_ble_eq_true rfl | exact ⟨_, rfl⟩ | exact ⟨_, _, rfl⟩ | exact Nat.le_refl _ | exact Int.le_refl _ | omega | (simp only [List.length_map]; omega)) ?_; conv => whnf)
          refine ⟨⟨[], ?_⟩⟩
          rw [hg2]
          conv => whnf
          repeat (refine And.intro (by first | exact rfl | decide | exact Nat.le_of_ble_eq_true rfl | exact ⟨_, rfl⟩ | exact ⟨_, _, rfl⟩ | exact Nat.le_refl _ | exact Int.le_refl _ | omega | (simp only [List.length_map]; omega)) ?_; conv => whnf)
          rfl
end Go.Ax
