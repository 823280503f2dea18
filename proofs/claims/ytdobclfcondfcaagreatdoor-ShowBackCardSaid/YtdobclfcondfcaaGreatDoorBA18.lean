/- What the card of this claim stands on, or the card itself: for every input, as the given row says. -/
import Derived.Test.YtdobclfcondfcaaGreatDoorBA09
import Derived.Test.YtdobclfcondfcaaGreatDoorBA12
import Derived.Test.YtdobclfcondfcaaGreatDoorBA17

namespace Go.Ax
open Go.Proofs Go.Lib
set_option maxRecDepth 10000
theorem rises_low {b : Int} {l : List PairT} (h : risesF b l = true) : ∀ i, i < l.length → (i : Int) ≤ (l.getD i (0, 0)).1
  | 0, hi => by
    have := alln_at h hi
    simp [risesAt] at this
    simpa using this.1
  | i + 1, hi => by
    have ih := rises_low h i (by omega)
    have := alln_at h hi
    simp [risesAt] at this
    have h2 : (l.getD i (0, 0)).1 < (l.getD (i + 1) (0, 0)).1 := by simpa using this.2
    omega
theorem rises_len {b : Int} {l : List PairT} (h : risesF b l = true) (hb : 0 ≤ b) : (l.length : Int) ≤ b := by
  cases hl : l.length with
  | zero => omega
  | succ n =>
    have h1 := rises_low h n (by omega)
    have := alln_at h (show n < l.length by omega)
    simp [risesAt] at this
    have h2 : (l.getD n (0, 0)).1 < b := by simpa using this.1.2
    omega
theorem rises_lt {b : Int} {l : List PairT} (h : risesF b l = true) (i : Nat) (hi : i + 1 < l.length) : (l.getD i (0, 0)).1 < (l.getD (i + 1) (0, 0)).1 := by
  have := alln_at h hi
  simp [risesAt] at this
  simpa using this.2
theorem rises_ok {b : Int} {l : List PairT} (h : risesF b l = true) (hb : 0 ≤ b ∧ b < 20) : OkL l := by
  have := rises_len h hb.1
  exact ⟨by omega, fun i hi => by have := rises_lt h i hi; omega⟩
theorem rises_dup {b : Int} {l : List PairT} (h : risesF b l = true) : dupS l = false := by
  have key : ∀ n, n ≤ l.length - 1 → dupGo l n = false := by
    intro n
    induction n with
    | zero => intro _; rfl
    | succ n ih =>
      intro hn
      rw [dupGo, ih (by omega)]
      have := rises_lt h n (by omega)
      unfold dupAt
      rw [decide_eq_false (by omega)]; rfl
  exact key _ (Nat.le_refl _)
theorem must_yes {t : TokT} {R : List TokT} (hk : t.kind = 1 ∨ t.kind = 3) (h : EndT (t :: R)) (hR : EndT R) : mustS t.s (mkS (t :: R) h) = some (mkS R hR) := by
  rw [mustS, take_yes hk h hR]; rfl
def condT (c : Bool × PairT) : List TokT := if c.1 then [tM ⟨#[64]⟩, tN c.2.1, tM ⟨#[61]⟩, tN c.2.2] else [tW (nameF c.2.1), tM ⟨#[61]⟩, tN c.2.2]
def OkC (c : Bool × PairT) : Prop := 0 ≤ c.2.1 ∧ c.2.1 < if c.1 then 60000 else 8
theorem cond_field (f n : Int) (hf : 0 ≤ f ∧ f < 8) (R : List TokT) (hR : EndT R) (h : EndT (tW (nameF f) :: tM ⟨#[61]⟩ :: tN n :: R)) : condS (mkS (tW (nameF f) :: tM ⟨#[61]⟩ :: tN n :: R) h) = some ((false, (f, n)), mkS R hR) := by
  obtain rfl | rfl | rfl | rfl | rfl | rfl | rfl | rfl : f = 0 ∨ f = 1 ∨ f = 2 ∨ f = 3 ∨ f = 4 ∨ f = 5 ∨ f = 6 ∨ f = 7 := by omega
  all_goals rfl
theorem cond_part (f n : Int) (R : List TokT) (hR : EndT R) (h : EndT (tM ⟨#[64]⟩ :: tN f :: tM ⟨#[61]⟩ :: tN n :: R)) : condS (mkS (tM ⟨#[64]⟩ :: tN f :: tM ⟨#[61]⟩ :: tN n :: R) h) = some ((true, (IntKind.i64.wrap f, n)), mkS R hR) := rfl
theorem cond_eq {c : Bool × PairT} (hc : OkC c) (R : List TokT) (hR : EndT R) (h : EndT (condT c ++ R)) : condS (mkS (condT c ++ R) h) = some (c, mkS R hR) := by
  obtain ⟨b, f, n⟩ := c
  cases b with
  | false => exact cond_field f n hc R hR h
  | true =>
    have hc : 0 ≤ f ∧ f < 60000 := hc
    have := cond_part f n R hR h
    rw [show IntKind.i64.wrap f = f from i64_wrap (by omega) (by omega)] at this
    exact this
def whensOf (l : List (Bool × PairT)) : List PairT := (l.filter (!·.1)).map (·.2)
def guardsOf (l : List (Bool × PairT)) : List PairT := (l.filter (·.1)).map (·.2)
theorem conds_go {R : List TokT} (hR : EndT R) (hno : takeS ampB (mkS R hR) = (false, mkS R hR)) : ∀ (cs : List (Bool × PairT)) (c : Bool × PairT) (w g : List PairT) (n : Nat) (h : EndT (condT c ++ ((cs.flatMap fun x => tM ⟨#[38]⟩ :: condT x) ++ R))), (∀ x ∈ c :: cs, OkC x) → cs.length < n →
    condsGo n w g (mkS (condT c ++ ((cs.flatMap fun x => tM ⟨#[38]⟩ :: condT x) ++ R)) h) = some ((w ++ whensOf (c :: cs), g ++ guardsOf (c :: cs)), mkS R hR)
  | [], c, w, g, n, h, hok, hn => by
    obtain ⟨n, rfl⟩ : ∃ m, n = m + 1 := ⟨n - 1, by omega⟩
    have e := cond_eq (hok c (by simp)) R hR h
    rw [condsGo, show condS (mkS (condT c ++ (([].flatMap fun x => tM ⟨#[38]⟩ :: condT x) ++ R)) h) = some (c, mkS R hR) from e]
    obtain ⟨b, x⟩ := c
    dsimp only
    rw [hno]
    cases b <;> simp [whensOf, guardsOf]
  | d :: cs, c, w, g, n, h, hok, hn => by
    obtain ⟨n, rfl⟩ : ∃ m, n = m + 1 := ⟨n - 1, by omega⟩
    have e0 : (((d :: cs).flatMap fun x => tM ⟨#[38]⟩ :: condT x) ++ R) = tM ⟨#[38]⟩ :: (condT d ++ ((cs.flatMap fun x => tM ⟨#[38]⟩ :: condT x) ++ R)) := by simp
    have hE : EndT (condT d ++ ((cs.flatMap fun x => tM ⟨#[38]⟩ :: condT x) ++ R)) := (hR.app _).app _
    have hE2 : EndT (((d :: cs).flatMap fun x => tM ⟨#[38]⟩ :: condT x) ++ R) := hR.app _
    have ht : takeS ampB (mkS (((d :: cs).flatMap fun x => tM ⟨#[38]⟩ :: condT x) ++ R) hE2) = (true, mkS _ hE) := by
      rw [mkS_eq e0 hE2 (e0 ▸ hE2)]
      exact take_yes (t := tM ⟨#[38]⟩) (.inr rfl) _ hE
    rw [condsGo, cond_eq (hok c (by simp)) _ hE2 h]
    have ih := fun w g => conds_go hR hno cs d w g n hE (fun x hx => hok x (List.mem_cons_of_mem _ hx)) (by simp at hn; omega)
    obtain ⟨b, x⟩ := c
    dsimp only
    rw [ht]
    show (if true = true then _ else _) = _
    rw [if_pos rfl, ih]
    cases b <;> simp [whensOf, guardsOf]
def asks (r : RuleT) : List (Bool × PairT) := r.when.map (fun p => (false, p)) ++ r.guard.map (fun p => (true, p))
theorem filter_all {α : Type} (l : List α) : l.filter (fun _ => true) = l := List.filter_eq_self.2 (by simp)
theorem filter_no {α : Type} (l : List α) : l.filter (fun _ => false) = [] := List.filter_eq_nil_iff.2 (by simp)
theorem whens_asks (r : RuleT) : whensOf (asks r) = r.when := by simp [whensOf, asks, List.filter_append, List.filter_map, Function.comp_def, filter_all, filter_no]
theorem guards_asks (r : RuleT) : guardsOf (asks r) = r.guard := by simp [guardsOf, asks, List.filter_append, List.filter_map, Function.comp_def, filter_all, filter_no]
def sepT (sg : TokT) {α : Type} (f : α → List TokT) : List α → List TokT
  | [] => []
  | c :: cs => f c ++ cs.flatMap fun x => sg :: f x
def makeT (p : PairT) : List TokT := [tM ⟨#[64]⟩, tN p.1, tM ⟨#[58, 61]⟩, tN p.2]
def ruleT (r : RuleT) : List TokT := sepT (tM ⟨#[38]⟩) condT (asks r) ++ tM ⟨#[61, 62]⟩ :: (sepT (tM ⟨#[38]⟩) makeT r.thn ++ [tM ⟨#[46]⟩])
theorem amp_arr (R : List TokT) (h : EndT (tM ⟨#[61, 62]⟩ :: R)) : takeS ampB (mkS (tM ⟨#[61, 62]⟩ :: R) h) = (false, mkS (tM ⟨#[61, 62]⟩ :: R) h) := take_no (fun _ => by decide) (by decide) h
theorem amp_dot (R : List TokT) (h : EndT (tM ⟨#[46]⟩ :: R)) : takeS ampB (mkS (tM ⟨#[46]⟩ :: R) h) = (false, mkS (tM ⟨#[46]⟩ :: R) h) := take_no (fun _ => by decide) (by decide) h
theorem rule_eq {k : Int} (hk : 0 ≤ k ∧ k ≤ 4) {r : RuleT} (hr : ruleOk k r = true) (R : List TokT) (hR : EndT R) (h : EndT (ruleT r ++ R)) : ruleS (mkS (ruleT r ++ R) h) = some (r, mkS R hR) := by
  obtain ⟨h1, h2, h3⟩ := ruleOk_split hr
  have k1 := rises_ok h1 (by omega)
  have k2 := rises_ok h2 (by omega)
  have k3 := rises_ok h3 (by omega)
  have hlen : 2 ≤ r.when.length ∧ r.thn.length ≠ 0 := by
    simp [ruleOk] at hr
    exact ⟨hr.1.1.1.1.1.1, by intro e; exact hr.2 (List.eq_nil_of_length_eq_zero e)⟩
  have hok : ∀ x ∈ asks r, OkC x := fun x hx => by
    rcases List.mem_append.1 hx with hx | hx
    · obtain ⟨p, hp, rfl⟩ := List.mem_map.1 hx
      have := risesF_at h1 hp
      exact ⟨this.1, by simpa using this.2⟩
    · obtain ⟨p, hp, rfl⟩ := List.mem_map.1 hx
      have := risesF_at h2 hp
      exact ⟨this.1, by simp; omega⟩
  have hasks : ∃ c cs, asks r = c :: cs := by
    have : (asks r).length ≠ 0 := by unfold asks; rw [List.length_append, List.length_map, List.length_map]; omega
    cases ha : asks r with
    | nil => rw [ha] at this; simp at this
    | cons c cs => exact ⟨c, cs, rfl⟩
  obtain ⟨c, cs, ha⟩ := hasks
  obtain ⟨m, ms, hm⟩ : ∃ m ms, r.thn = m :: ms := by
    cases ht : r.thn with
    | nil => rw [ht] at hlen; simp at hlen
    | cons m ms => exact ⟨m, ms, rfl⟩
  have hD : EndT (tM ⟨#[46]⟩ :: R) := hR.app [_]
  have hM : EndT (makeT m ++ ((ms.flatMap fun x => tM ⟨#[38]⟩ :: makeT x) ++ tM ⟨#[46]⟩ :: R)) := (hD.app _).app _
  have hA : EndT (tM ⟨#[61, 62]⟩ :: (makeT m ++ ((ms.flatMap fun x => tM ⟨#[38]⟩ :: makeT x) ++ tM ⟨#[46]⟩ :: R))) := hM.app [_]
  have hC : EndT (condT c ++ ((cs.flatMap fun x => tM ⟨#[38]⟩ :: condT x) ++ tM ⟨#[61, 62]⟩ :: (makeT m ++ ((ms.flatMap fun x => tM ⟨#[38]⟩ :: makeT x) ++ tM ⟨#[46]⟩ :: R)))) := (hA.app _).app _
  have e : ruleT r ++ R = condT c ++ ((cs.flatMap fun x => tM ⟨#[38]⟩ :: condT x) ++ tM ⟨#[61, 62]⟩ :: (makeT m ++ ((ms.flatMap fun x => tM ⟨#[38]⟩ :: makeT x) ++ tM ⟨#[46]⟩ :: R))) := by
    unfold ruleT
    rw [ha, hm]
    simp [sepT, List.append_assoc]
  rw [mkS_eq e h hC]
  have hlc : ∀ l : List (Bool × PairT), l.length ≤ (l.flatMap fun x => tM ⟨#[38]⟩ :: condT x).length := fun l => by
    induction l with
    | nil => simp
    | cons y l ih => simp only [List.flatMap_cons, List.length_append, List.length_cons]; omega
  unfold ruleS
  have hf : cs.length < (mkS _ hC).l.length := by
    show cs.length < (condT c ++ ((cs.flatMap fun x => tM ⟨#[38]⟩ :: condT x) ++ tM ⟨#[61, 62]⟩ :: _)).length
    have := hlc cs
    simp only [List.length_append, List.length_cons]; omega
  rw [conds_go hA (amp_arr _ hA) cs c [] [] _ hC (by rw [← ha]; exact hok) hf]
  have hmk := list_all (sign := ampB) (one := partS asB) (kt := makeT) (sg := tM ⟨#[38]⟩) (.inr rfl) rfl (fun _ => True) (fun _ => trivial) hD trivial (amp_dot _ hD) m ms
    (fun y hy R h hR _ => by
      have hy : y ∈ r.thn := by rw [hm]; exact hy
      have hb := risesF_at h3 hy
      have := part_as y.1 y.2 R hR h
      rw [show IntKind.i64.wrap y.1 = y.1 from i64_wrap (by omega) (by omega)] at this
      exact this) hM
  show ((mustS arrB (mkS _ hA)).bind fun p2 => (listS ampB (partS asB) p2).bind fun y => (mustS dotC y.2).bind fun p4 => some ((⟨sortP ([] ++ whensOf (c :: cs)), sortP ([] ++ guardsOf (c :: cs)), sortP y.1⟩ : RuleT), { p4 with twi := ((p4.twi || dupS (sortP ([] ++ whensOf (c :: cs)))) || dupS (sortP ([] ++ guardsOf (c :: cs)))) || dupS (sortP y.1) })) = _
  rw [show mustS arrB (mkS _ hA) = some (mkS _ hM) from must_yes (t := tM ⟨#[61, 62]⟩) (.inr rfl) hA hM]
  show ((listS ampB (partS asB) (mkS _ hM)).bind _) = _
  rw [hmk, Option.bind_some]
  dsimp only
  rw [show mustS dotC (mkS (tM ⟨#[46]⟩ :: R) hD) = some (mkS R hR) from must_yes (t := tM ⟨#[46]⟩) (.inr rfl) hD hR, Option.bind_some, List.nil_append, List.nil_append, ← ha, ← hm, whens_asks, guards_asks, sortP_rise k1.1 k1.2, sortP_rise k2.1 k2.2, sortP_rise k3.1 k3.2, rises_dup h1, rises_dup h2, rises_dup h3]
  rfl
theorem on_end {R : List TokT} (h : EndT (noTok :: R)) : takeS onC (mkS (noTok :: R) h) = (false, mkS (noTok :: R) h) := take_no (fun hk => by rcases hk with hk | hk <;> exact absurd hk (by decide)) (by decide) h
def rulesT (l : List RuleT) : List TokT := l.flatMap fun r => tW ⟨#[111, 110]⟩ :: ruleT r
theorem end1 : EndT [noTok] := ⟨[], rfl⟩
theorem rules_go {k : Int} (hk : 0 ≤ k ∧ k ≤ 4) : ∀ (l : List RuleT) (acc : List RuleT) (n : Nat) (h : EndT (rulesT l ++ [noTok])), (∀ r ∈ l, ruleOk k r = true) → l.length < n → rulesGo n acc (mkS (rulesT l ++ [noTok]) h) = some (acc ++ l, mkS [noTok] end1)
  | [], acc, n, h, _, hn => by
    obtain ⟨n, rfl⟩ : ∃ m, n = m + 1 := ⟨n - 1, by omega⟩
    have e : takeS onC (mkS (rulesT [] ++ [noTok]) h) = (false, mkS [noTok] end1) := on_end h
    rw [rulesGo, e, List.append_nil]; rfl
  | r :: l, acc, n, h, hok, hn => by
    obtain ⟨n, rfl⟩ : ∃ m, n = m + 1 := ⟨n - 1, by omega⟩
    have hE : EndT (rulesT l ++ [noTok]) := end1.app _
    have hE2 : EndT (ruleT r ++ (rulesT l ++ [noTok])) := hE.app _
    have e0 : rulesT (r :: l) ++ [noTok] = tW ⟨#[111, 110]⟩ :: (ruleT r ++ (rulesT l ++ [noTok])) := by simp [rulesT]
    have e : takeS onC (mkS (rulesT (r :: l) ++ [noTok]) h) = (true, mkS _ hE2) := by
      rw [mkS_eq e0 h (e0 ▸ h)]
      exact take_yes (t := tW ⟨#[111, 110]⟩) (.inl rfl) _ hE2
    have hr := rule_eq hk (hok r (by simp)) _ hE hE2
    have ih1 := rules_go hk l (acc ++ [r]) n hE (fun x hx => hok x (by simp [hx])) (by simp at hn; omega)
    rw [rulesGo, e]
    show (if true = true then (ruleS (mkS _ hE2)).bind _ else _) = _
    rw [if_pos rfl, hr]
    show rulesGo n (acc ++ [r]) (mkS _ hE) = _
    rw [ih1, List.append_assoc]; rfl
theorem rulesT_len (l : List RuleT) : l.length ≤ (rulesT l).length := by
  induction l with
  | nil => simp
  | cons r l ih =>
    have : rulesT (r :: l) = tW ⟨#[111, 110]⟩ :: (ruleT r ++ rulesT l) := by simp [rulesT]
    rw [this]
    simp only [List.length_append, List.length_cons]; omega
end Go.Ax

namespace Go.Ax
open Go.Proofs Go.Lib
set_option maxRecDepth 10000
def sepW {α : Type} (f : α → List Lx) : List α → List Lx
  | [] => []
  | c :: cs => f c ++ cs.flatMap fun x => .s 32 :: .m [38] :: .s 32 :: f x
def askX (c : Bool × PairT) : List Lx := if c.1 then partX c.2.1 [61] c.2.2 else fieldX c.2.1 [61] c.2.2
def makeX (p : PairT) : List Lx := partX p.1 [58, 61] p.2
def lineX (r : RuleT) : List Lx := .w [111, 110] :: .s 32 :: (sepW askX (asks r) ++ (.s 32 :: .m [61, 62] :: .s 32 :: (sepW makeX r.thn ++ [.s 32, .m [46]])))
def rulesX (l : List RuleT) : List Lx := l.flatMap fun r => lineX r ++ [.s 10]
def initX (l : List Int) : List Lx := .w [105, 110, 105, 116] :: l.flatMap fun n => [.s 32, .n n.toNat]
def progX (x : ProgT) : List Lx := initX x.init ++ (.s 32 :: .m [46] :: .s 10 :: .w [112, 111, 108, 105, 99, 121] :: .s 32 :: (polX x.pol ++ (.s 32 :: .m [46] :: .s 10 :: rulesX x.rules)))
theorem txt_sep {α : Type} (f : α → List Lx) : ∀ l : List α, txtX (sepW f l) = Lib.join (l.map fun x => txtX (f x)) [32, 38, 32]
  | [] => rfl
  | c :: cs => by
    rw [sepW, txtX_app, List.map_cons, Lib.join_cons]
    congr 1
    induction cs with
    | nil => rfl
    | cons d ds ih =>
      rw [List.flatMap_cons, txtX_app, ih]
      simp [joinTail, txtX, Lx.txt]
theorem askW_dat (p : PairT) : (askW p).data.toList = txtX (askX (false, p)) := by
  show ((nameF p.1 ++ ⟨#[61]⟩) ++ digB p.2.toNat).data.toList = txtX (fieldX p.1 [61] p.2)
  rw [txt_field, bdat, bdat, digB_dat, List.append_assoc]
theorem partB_dat (f : Int) (sign : List UInt8) (n : Int) : (partB f ⟨sign.toArray⟩ n).data.toList = txtX (partX f sign n) := by
  rw [txt_part, partB, bdat, bdat, bdat, digB_dat, digB_dat]; simp
theorem asks_dat (r : RuleT) : (asksB r).map (·.data.toList) = (asks r).map fun c => txtX (askX c) := by
  unfold asksB asks
  rw [List.map_append, List.map_append, List.map_map, List.map_map, List.map_map, List.map_map]
  congr 1
  · exact List.map_congr_left fun p _ => askW_dat p
  · exact List.map_congr_left fun p _ => partB_dat p.1 [61] p.2
theorem makes_dat (r : RuleT) : (makesB r).map (·.data.toList) = r.thn.map fun c => txtX (makeX c) := by
  unfold makesB
  rw [List.map_map]
  exact List.map_congr_left fun p _ => partB_dat p.1 [58, 61] p.2
theorem joinX_dat (l : List ByteArray) : (joinX andB l).data.toList = Lib.join (l.map (·.data.toList)) [32, 38, 32] := by simp [joinX, andB]
theorem txt_line (r : RuleT) : txtX (lineX r) = (lineB r).data.toList := by
  unfold lineX lineB
  rw [bdat, bdat, bdat, bdat, joinX_dat, joinX_dat, asks_dat, makes_dat, ← txt_sep, ← txt_sep]
  simp [txtX, Lx.txt]
theorem txt_rules (l : List RuleT) : ∀ b : ByteArray, (l.foldl rlB b).data.toList = b.data.toList ++ txtX (rulesX l) := by
  induction l with
  | nil => intro b; simp [rulesX, txtX]
  | cons r l ih =>
    intro b
    rw [List.foldl_cons, ih, rlB, bdat, bdat, ← txt_line]
    simp [rulesX, txtX, Lx.txt]
theorem txt_init (l : List Int) : ∀ b : ByteArray, (l.foldl swB b).data.toList = b.data.toList ++ txtX (l.flatMap fun n => [Lx.s 32, .n n.toNat]) := by
  induction l with
  | nil => intro b; simp [txtX]
  | cons n l ih =>
    intro b
    rw [List.foldl_cons, ih, swB, bdat, bdat, digB_dat]
    simp [txtX, Lx.txt, spB]
theorem txt_prog (x : ProgT) : txtX (progX x) = (progB x).data.toList := by
  unfold progX progB
  rw [txt_rules, headG, bdat, bdat, bdat, txt_init, ← txt_pol]
  simp [txtX, Lx.txt, initX, initB, policyB, dotB, List.append_assoc]
theorem OkX.sep {α : Type} {f : α → List Lx} : ∀ (l : List α), (∀ x ∈ l, OkX (f x)) → ∀ b x, Lx.ok x = true → x.wl = false → OkX b → OkX (sepW f l ++ x :: b)
  | [], _, b, x, h1, h2, hb => OkX.mid (a := []) h1 h2 .nil hb
  | c :: cs, h, b, x, h1, h2, hb => by
    rw [sepW]
    have hc := h c (by simp)
    have key : ∀ (ds : List α), (∀ x ∈ ds, OkX (f x)) → ∀ a, OkX a → OkX (a ++ ((ds.flatMap fun x => .s 32 :: .m [38] :: .s 32 :: f x) ++ x :: b)) := by
      intro ds
      induction ds with
      | nil => intro _ a ha; exact OkX.mid h1 h2 ha hb
      | cons d ds ih =>
        intro hd a ha
        have h3 := ih (fun y hy => hd y (by simp [hy])) (f d) (hd d (by simp))
        have h4 : OkX (Lx.s 32 :: (f d ++ ((ds.flatMap fun x => .s 32 :: .m [38] :: .s 32 :: f x) ++ x :: b))) := OkX.mid (a := []) (by decide) rfl .nil h3
        have h5 : OkX (Lx.m [38] :: Lx.s 32 :: (f d ++ ((ds.flatMap fun x => .s 32 :: .m [38] :: .s 32 :: f x) ++ x :: b))) := OkX.mid (a := []) (by decide) rfl .nil h4
        have h6 := OkX.mid (x := .s 32) (by decide) rfl ha h5
        rw [List.flatMap_cons]
        simpa [List.append_assoc] using h6
    rw [List.append_assoc]
    exact key cs (fun y hy => h y (by simp [hy])) (f c) hc
theorem OkX.blank {b : List Lx} (hb : OkX b) : OkX (.s 32 :: b) := OkX.mid (a := []) (by decide) rfl .nil hb
theorem OkX.line10 {b : List Lx} (hb : OkX b) : OkX (.s 10 :: b) := OkX.mid (a := []) (by decide) rfl .nil hb
theorem OkX.sign {l : List UInt8} (h : (Lx.m l).ok = true) {b : List Lx} (hb : OkX b) : OkX (.m l :: b) := OkX.mid (a := []) h rfl .nil hb
theorem OkX.word {l : List UInt8} (h : (Lx.w l).ok = true) {x : Lx} (hx : x.ok = true) (hw : x.wl = false) {b : List Lx} (hb : OkX b) : OkX (.w l :: x :: b) :=
  OkX.mid (a := [.w l]) hx hw ⟨fun y hy => by rw [List.mem_singleton.1 hy]; exact h, rfl⟩ hb
theorem OkX.line {k : Int} (hk : k ≤ 60000) {r : RuleT} (ht : TypR r) (h : ruleOk k r = true) {b : List Lx} (hb : OkX b) : OkX (lineX r ++ .s 10 :: b) := by
  obtain ⟨h1, h2, h3⟩ := ruleOk_split h
  have ha : ∀ c ∈ asks r, OkX (askX c) := fun c hc => by
    rcases List.mem_append.1 hc with hc | hc
    · obtain ⟨p, hp, rfl⟩ := List.mem_map.1 hc
      have := risesF_at h1 hp
      exact OkX.field this (by decide) (ht.when p hp)
    · obtain ⟨p, hp, rfl⟩ := List.mem_map.1 hc
      have := risesF_at h2 hp
      exact OkX.part ⟨this.1, by show p.1 < 65536; omega⟩ (by decide) (ht.guard p hp)
  have hm : ∀ p ∈ r.thn, OkX (makeX p) := fun p hp => by
    have := risesF_at h3 hp
    exact OkX.part ⟨this.1, by omega⟩ (by decide) (ht.thn p hp)
  have e : lineX r ++ .s 10 :: b = .w [111, 110] :: .s 32 :: (sepW askX (asks r) ++ .s 32 :: .m [61, 62] :: .s 32 :: (sepW makeX r.thn ++ .s 32 :: .m [46] :: .s 10 :: b)) := by
    unfold lineX; simp [List.append_assoc]
  rw [e]
  refine OkX.word (by decide) (by decide) rfl (OkX.sep _ ha _ _ (by decide) rfl (OkX.sign (by decide) (OkX.blank (OkX.sep _ hm _ _ (by decide) rfl (OkX.sign (by decide) (OkX.line10 hb))))))
theorem OkX.rules {k : Int} (hk : k ≤ 60000) : ∀ l : List RuleT, (∀ r ∈ l, TypR r) → (∀ r ∈ l, ruleOk k r = true) → OkX (rulesX l)
  | [], _, _ => .nil
  | r :: l, ht, h => by
    have e : rulesX (r :: l) = lineX r ++ .s 10 :: rulesX l := by simp [rulesX]
    rw [e]
    exact OkX.line hk (ht r (by simp)) (h r (by simp)) (OkX.rules hk l (fun x hx => ht x (by simp [hx])) fun x hx => h x (by simp [hx]))
theorem OkX.init (l : List Int) (hl : ∀ n ∈ l, 0 ≤ n ∧ n < 65536) {b : List Lx} (hb : OkX b) : OkX (initX l ++ .s 32 :: b) := by
  have key : ∀ (l : List Int), (∀ n ∈ l, 0 ≤ n ∧ n < 65536) → ∀ a, OkX a → OkX (a ++ ((l.flatMap fun n => [Lx.s 32, .n n.toNat]) ++ .s 32 :: b)) := by
    intro l
    induction l with
    | nil => intro _ a ha; exact OkX.mid (by decide) rfl ha hb
    | cons n l ih =>
      intro hl a ha
      have hn := hl n (by simp)
      have h1 := ih (fun m hm => hl m (by simp [hm])) [.n n.toNat] ⟨fun y hy => by rw [List.mem_singleton.1 hy]; simp [Lx.ok]; omega, rfl⟩
      have h2 := OkX.mid (x := .s 32) (by decide) rfl ha h1
      rw [List.flatMap_cons]
      simpa [List.append_assoc] using h2
  have := key l hl [.w [105, 110, 105, 116]] ⟨fun y hy => by rw [List.mem_singleton.1 hy]; decide, rfl⟩
  simpa [initX] using this
theorem OkX.prog {x : ProgT} (ho : OkG x) (hc : checkP x = 0) : OkX (progX x) := by
  obtain ⟨⟨_, hi⟩, _, hf, hr⟩ := check_zero hc
  have hp := OkX.pol (k := x.init.length) (by omega) _ x.pol (Nat.le_refl _) ho.pol hf
  have hrs := OkX.rules (k := x.init.length) (by omega) x.rules ho.rules hr
  unfold progX
  refine OkX.init x.init ho.init (OkX.sign (by decide) (OkX.line10 (OkX.word (by decide) (by decide) rfl ?_)))
  exact OkX.mid (x := .s 32) (by decide) rfl hp (OkX.sign (by decide) (OkX.line10 hrs))
theorem tok_sep {α : Type} (f : α → List Lx) : ∀ l : List α, tokX (sepW f l) = sepT (tM ⟨#[38]⟩) (fun x => tokX (f x)) l
  | [] => rfl
  | c :: cs => by
    rw [sepW, tokX_app, sepT]
    congr 1
    induction cs with
    | nil => rfl
    | cons d ds ih =>
      rw [List.flatMap_cons, List.flatMap_cons, tokX_app, ih]
      rfl
theorem sepT_congr {α : Type} {sg : TokT} {f g : α → List TokT} : ∀ {l : List α}, (∀ x ∈ l, f x = g x) → sepT sg f l = sepT sg g l
  | [], _ => rfl
  | c :: cs, h => by
    rw [sepT, sepT, h c (by simp)]
    congr 1
    have h2 : ∀ x ∈ cs, f x = g x := fun x hx => h x (by simp [hx])
    clear h
    induction cs with
    | nil => rfl
    | cons d ds ih => rw [List.flatMap_cons, List.flatMap_cons, h2 d (by simp), ih fun x hx => h2 x (by simp [hx])]
theorem tok_line {k : Int} (hk : k ≤ 60000) {r : RuleT} (ht : TypR r) (h : ruleOk k r = true) : tokX (lineX r) = tW ⟨#[111, 110]⟩ :: ruleT r := by
  obtain ⟨h1, h2, h3⟩ := ruleOk_split h
  have ha : ∀ c ∈ asks r, tokX (askX c) = condT c := fun c hc => by
    rcases List.mem_append.1 hc with hc | hc
    · obtain ⟨p, hp, rfl⟩ := List.mem_map.1 hc
      exact tok_field (ht.when p hp).1
    · obtain ⟨p, hp, rfl⟩ := List.mem_map.1 hc
      exact tok_part (risesF_at h2 hp).1 (ht.guard p hp).1
  have hm : ∀ p ∈ r.thn, tokX (makeX p) = makeT p := fun p hp => tok_part (risesF_at h3 hp).1 (ht.thn p hp).1
  unfold lineX ruleT
  rw [← sepT_congr ha, ← sepT_congr hm, ← tok_sep, ← tok_sep]
  simp [tokX, Lx.tok, tW, tM]
theorem tok_rules {k : Int} (hk : k ≤ 60000) : ∀ l : List RuleT, (∀ r ∈ l, TypR r) → (∀ r ∈ l, ruleOk k r = true) → tokX (rulesX l) = rulesT l
  | [], _, _ => rfl
  | r :: l, ht, h => by
    have e : rulesX (r :: l) = lineX r ++ .s 10 :: rulesX l := by simp [rulesX]
    have e2 : rulesT (r :: l) = (tW ⟨#[111, 110]⟩ :: ruleT r) ++ rulesT l := by simp [rulesT]
    rw [e, e2, tokX_app, tokX_cons, tok_line hk (ht r (by simp)) (h r (by simp)), tok_rules hk l (fun x hx => ht x (by simp [hx])) fun x hx => h x (by simp [hx])]
    rfl
def progT (x : ProgT) : List TokT := tW ⟨#[105, 110, 105, 116]⟩ :: (x.init.map tN ++ tM ⟨#[46]⟩ :: tW ⟨#[112, 111, 108, 105, 99, 121]⟩ :: (tokX (polX x.pol) ++ tM ⟨#[46]⟩ :: rulesT x.rules))
theorem tok_init : ∀ l : List Int, (∀ n ∈ l, 0 ≤ n) → tokX (l.flatMap fun n => [Lx.s 32, .n n.toNat]) = l.map tN
  | [], _ => rfl
  | n :: l, h => by
    rw [List.flatMap_cons, tokX_app, tok_init l fun m hm => h m (by simp [hm]), List.map_cons]
    have := h n (by simp)
    simp [tokX, Lx.tok, tN]
    omega
theorem tok_prog {x : ProgT} (ho : OkG x) (hc : checkP x = 0) : tokX (progX x) = progT x := by
  obtain ⟨⟨_, hi⟩, _, hf, hr⟩ := check_zero hc
  unfold progX progT initX
  rw [tokX_app, tokX_cons, tok_init _ fun n hn => (ho.init n hn).1]
  simp only [tokX_cons, tokX_app, tok_rules (k := x.init.length) (by omega) x.rules ho.rules hr]
  rfl
theorem nums_go {R : List TokT} (hR : EndT R) (hD : EndT (tM ⟨#[46]⟩ :: R)) : ∀ (l : List Int) (acc : List Int) (n : Nat) (h : EndT (l.map tN ++ tM ⟨#[46]⟩ :: R)), l.length < n → numsGo n acc (mkS (l.map tN ++ tM ⟨#[46]⟩ :: R) h) = some (acc ++ l, mkS R hR)
  | [], acc, n, h, hn => by
    obtain ⟨n, rfl⟩ : ∃ m, n = m + 1 := ⟨n - 1, by omega⟩
    have e : takeS dotC (mkS (tM ⟨#[46]⟩ :: R) hD) = (true, mkS R hR) := take_yes (t := tM ⟨#[46]⟩) (.inr rfl) hD hR
    rw [numsGo, show takeS dotC (mkS (List.map tN [] ++ tM ⟨#[46]⟩ :: R) h) = (true, mkS R hR) from e, List.append_nil]
    rfl
  | m :: l, acc, n, h, hn => by
    obtain ⟨n, rfl⟩ : ∃ m, n = m + 1 := ⟨n - 1, by omega⟩
    have hE : EndT (l.map tN ++ tM ⟨#[46]⟩ :: R) := hD.app _
    have e : takeS dotC (mkS (tN m :: (l.map tN ++ tM ⟨#[46]⟩ :: R)) h) = (false, mkS (tN m :: (l.map tN ++ tM ⟨#[46]⟩ :: R)) h) := take_no (fun hk => by rcases hk with hk | hk <;> exact absurd hk (show ¬ (2 : Int) = _ by decide)) (by decide) h
    have e2 : numS (mkS (tN m :: (l.map tN ++ tM ⟨#[46]⟩ :: R)) h) = some (m, mkS _ hE) := rfl
    rw [numsGo, show takeS dotC (mkS (List.map tN (m :: l) ++ tM ⟨#[46]⟩ :: R) h) = _ from e]
    show (if false = true then _ else (numS (mkS (tN m :: (l.map tN ++ tM ⟨#[46]⟩ :: R)) h)).bind _) = _
    rw [if_neg (by simp), e2, Option.bind_some]
    dsimp only
    rw [nums_go hR hD l (acc ++ [m]) n hE (by simp at hn; omega), List.append_assoc]
    rfl
theorem tok_size {k : Int} (hk : k ≤ 60000) : ∀ (N : Nat) (p : PolT), sizeP p ≤ N → WfP k p → sizeP p ≤ (tokX (polX p)).length
  | 0, p, h, _ => by have := sizeP_pos p; omega
  | N + 1, p, hN, hw => by
    have ih : ∀ q ∈ p.kids, ∀ of, sizeP q ≤ (kidT of q).length := fun q hq of => by
      have h1 := tok_size hk N q (by have := sizeP_kid hq; omega) (hw.kid hq)
      by_cases hb : bareB of q.op = true
      · rw [kidT_bare hb]; exact h1
      · rw [kidT_par (Bool.eq_false_iff.2 hb)]; simp; omega
    have hsz : sizeP p = 1 + sizesP p.kids := by cases p; rw [sizeP]; rfl
    by_cases h67 : p.op = 6 ∨ p.op = 7
    · obtain ⟨_, hl2⟩ := hw.join h67
      cases hkk : p.kids with
      | nil => rw [hkk] at hl2; simp at hl2
      | cons q l =>
        rw [tok_pol h67 hkk, hsz, hkk, sizesP, List.length_append]
        have hq := ih q (by rw [hkk]; simp) p.op
        have key : ∀ l : List PolT, (∀ y ∈ l, sizeP y ≤ (kidT p.op y).length) → sizesP l + l.length ≤ (l.flatMap fun x => tM ⟨(signX p.op).toArray⟩ :: kidT p.op x).length := by
          intro l
          induction l with
          | nil => intro _; simp [sizesP]
          | cons y l ih2 =>
            intro h
            have h1 := h y (by simp)
            have h2 := ih2 fun z hz => h z (by simp [hz])
            rw [sizesP, List.flatMap_cons]
            simp only [List.length_append, List.length_cons]; omega
        have h2 := key l fun y hy => ih y (by rw [hkk]; simp [hy]) p.op
        have : 1 ≤ l.length := by rw [hkk] at hl2; simp at hl2; omega
        omega
    · by_cases h4 : p.op = 4
      · obtain ⟨q, hq⟩ := not4_kid hw h4
        have h1 := ih q (by rw [hq]; exact List.mem_singleton.2 rfl) 4
        have e : tokX (polX p) = tM ⟨#[33]⟩ :: kidT 4 q := by
          rw [hq, polX, kidsX_cons, kidsX, tokX_app]
          show tokX [.m [33]] ++ tokX ([] ++ (kidX 4 q ++ [])) = _
          rw [List.nil_append, List.append_nil]; rfl
        rw [e, hq, sizeP, sizesP, sizesP, List.length_cons]; omega
      · have hkids := formP_leaf hw.fm h4 (fun h => h67 (.inl h)) (fun h => h67 (.inr h))
        rw [hsz, hkids, sizesP]
        have : (tokX (polX p)).length ≠ 0 := fun h0 => by
          have e := leaf_atom hk hw h4 (fun h => h67 (.inl h)) (fun h => h67 (.inr h)) (fun _ => none) 0 [noTok] end1 (end1.app _)
          rw [mkS_eq (by rw [List.eq_nil_of_length_eq_zero h0]; rfl) (end1.app _) end1] at e
          have e2 : unaryS (fun _ => none) 1 (mkS [noTok] end1) = none := rfl
          rw [e2] at e
          exact absurd e (by simp)
        omega
theorem take_letNo {R : List TokT} (h : EndT (tW ⟨#[112, 111, 108, 105, 99, 121]⟩ :: R)) : takeS letC (mkS (tW ⟨#[112, 111, 108, 105, 99, 121]⟩ :: R) h) = (false, mkS (tW ⟨#[112, 111, 108, 105, 99, 121]⟩ :: R) h) := take_no (fun _ => by decide) (by decide) h
theorem prog_read {x : ProgT} (ho : OkG x) (hc : checkP x = 0) : progS (sp0 (progT x)) = some (x, mkS [noTok] end1) := by
  obtain ⟨⟨hi1, hi⟩, _, hf, hr⟩ := check_zero hc
  have hk : (0 : Int) ≤ x.init.length ∧ (x.init.length : Int) ≤ 4 := by omega
  have hw : WfP x.init.length x.pol := ⟨ho.pol, hf⟩
  obtain ⟨m, ms, hm⟩ : ∃ m ms, x.init = m :: ms := by
    cases hx : x.init with
    | nil => rw [hx] at hi1; simp at hi1
    | cons m ms => exact ⟨m, ms, rfl⟩
  have hRu : EndT (rulesT x.rules ++ [noTok]) := end1.app _
  have hD2 : EndT (tM ⟨#[46]⟩ :: (rulesT x.rules ++ [noTok])) := hRu.app [_]
  have hPol : EndT (tokX (polX x.pol) ++ tM ⟨#[46]⟩ :: (rulesT x.rules ++ [noTok])) := hD2.app _
  have hP : EndT (tW ⟨#[112, 111, 108, 105, 99, 121]⟩ :: (tokX (polX x.pol) ++ tM ⟨#[46]⟩ :: (rulesT x.rules ++ [noTok]))) := hPol.app [_]
  have hD1 : EndT (tM ⟨#[46]⟩ :: tW ⟨#[112, 111, 108, 105, 99, 121]⟩ :: (tokX (polX x.pol) ++ tM ⟨#[46]⟩ :: (rulesT x.rules ++ [noTok]))) := hP.app [_]
  have hN : EndT (ms.map tN ++ tM ⟨#[46]⟩ :: tW ⟨#[112, 111, 108, 105, 99, 121]⟩ :: (tokX (polX x.pol) ++ tM ⟨#[46]⟩ :: (rulesT x.rules ++ [noTok]))) := hD1.app _
  have hN1 : EndT (tN m :: (ms.map tN ++ tM ⟨#[46]⟩ :: tW ⟨#[112, 111, 108, 105, 99, 121]⟩ :: (tokX (polX x.pol) ++ tM ⟨#[46]⟩ :: (rulesT x.rules ++ [noTok])))) := hN.app [_]
  have hI : EndT (tW ⟨#[105, 110, 105, 116]⟩ :: tN m :: (ms.map tN ++ tM ⟨#[46]⟩ :: tW ⟨#[112, 111, 108, 105, 99, 121]⟩ :: (tokX (polX x.pol) ++ tM ⟨#[46]⟩ :: (rulesT x.rules ++ [noTok])))) := hN1.app [_]
  have e : progT x ++ [noTok] = tW ⟨#[105, 110, 105, 116]⟩ :: tN m :: (ms.map tN ++ tM ⟨#[46]⟩ :: tW ⟨#[112, 111, 108, 105, 99, 121]⟩ :: (tokX (polX x.pol) ++ tM ⟨#[46]⟩ :: (rulesT x.rules ++ [noTok]))) := by
    unfold progT; rw [hm]; simp [List.append_assoc]
  have es : sp0 (progT x) = mkS _ hI := mkS_eq e _ hI
  have hhead : headS (mkS _ hI) = some (x.init, mkS _ hP) := by
    unfold headS
    rw [show mustS initC (mkS _ hI) = some (mkS _ hN1) from must_yes (t := tW ⟨#[105, 110, 105, 116]⟩) (.inl rfl) hI hN1, Option.bind_some,
      show numS (mkS _ hN1) = some (m, mkS _ hN) from rfl, Option.bind_some]
    dsimp only
    rw [nums_go hP hD1 ms [m] _ hN (by show ms.length < (ms.map tN ++ tM ⟨#[46]⟩ :: _).length; rw [List.length_append, List.length_map, List.length_cons]; omega), Option.bind_some]
    dsimp only
    have hl : letsGo (mkS _ hP).l.length (mkS _ hP) = some (mkS _ hP) := by
      have hlen : (mkS _ hP).l.length = (tokX (polX x.pol) ++ tM ⟨#[46]⟩ :: (rulesT x.rules ++ [noTok])).length + 1 := rfl
      rw [hlen, letsGo, take_letNo hP]; rfl
    rw [hl, Option.bind_some, hm]
    rfl
  have hmp : mustS policyC (mkS _ hP) = some (mkS _ hPol) := must_yes (t := tW ⟨#[112, 111, 108, 105, 99, 121]⟩) (.inl rfl) hP hPol
  have hts := tok_size (k := x.init.length) (by omega) _ x.pol (Nat.le_refl _) hw
  have hsum : sumS (mkS _ hPol).l.length (mkS _ hPol) = some (x.pol, mkS _ hD2) :=
    (reads (k := x.init.length) (by omega) _ x.pol (Nat.le_refl _) hw).sum _ (by show sizeP x.pol ≤ (tokX (polX x.pol) ++ tM ⟨#[46]⟩ :: _).length; rw [List.length_append]; omega) _ hD2 hPol (notSemi_dot _) (notPlus_dot _)
  have hmd : mustS dotC (mkS _ hD2) = some (mkS _ hRu) := must_yes (t := tM ⟨#[46]⟩) (.inr rfl) hD2 hRu
  have hg := rules_go hk x.rules [] (mkS _ hRu).l.length hRu hr (by
    show x.rules.length < (rulesT x.rules ++ [noTok]).length
    have := rulesT_len x.rules
    simp; omega)
  rw [es, progS, hhead, Option.bind_some]
  dsimp only
  rw [bodyS, hmp, Option.bind_some, hsum, Option.bind_some]
  dsimp only
  rw [hmd, Option.bind_some, hg, Option.bind_some, List.nil_append]
  rfl
theorem show_back {x : ProgT} (ho : OkG x) (hc : checkP x = 0) (hs : (progB x).size ≤ 4000) : parseS (progB x) = (some x, 0) ∧ FitP (progB x) := by
  have hok := OkX.prog ho hc
  have hlow : ∀ b ∈ (progB x).data.toList, b.toNat < 128 := fun b hb => by
    rw [← txt_prog] at hb
    obtain ⟨l, hl, hbl⟩ := List.mem_flatten.1 hb
    obtain ⟨y, hy, rfl⟩ := List.mem_map.1 hl
    have hyk := hok.1 y hy
    cases y with
    | w l =>
      simp only [Lx.ok, Bool.and_eq_true, List.all_eq_true, decide_eq_true_eq] at hyk
      have := hyk.2 b hbl
      omega
    | n k =>
      have := dec_digit k b hbl
      omega
    | m l =>
      have hm : l ∈ signs := by simpa [Lx.ok] using hyk
      simp only [signs, List.mem_cons, List.not_mem_nil, or_false] at hm
      have hbl : b ∈ l := hbl
      rcases hm with rfl | rfl | rfl | rfl | rfl | rfl | rfl | rfl | rfl | rfl | rfl <;> simp at hbl <;> (try rcases hbl with rfl | rfl) <;> (try subst hbl) <;> decide
    | s c =>
      have hbl : b ∈ [c] := hbl
      rw [List.mem_singleton] at hbl
      subst hbl
      simp only [Lx.ok, Bool.or_eq_true, beq_iff_eq] at hyk
      rcases hyk with rfl | rfl <;> decide
  have hch := low_chunks _ hlow
  have hv : vS (progB x) = true := by
    unfold vS
    rw [valid_chunks, hch]
    exact all_low _ hlow
  have htok : tokensF vS (progB x) = (some (progT x ++ [noTok]), 0) := by
    rw [tokensF_T _ hs, if_neg (by rw [hv]; simp), hch]
    have := tok_lx (progX x) hok.1 hok.2 []
    rw [tok_prog ho hc, txt_prog] at this
    exact this
  have h1 := prog_read ho hc
  have key : ∀ l' e, tokensF vS (progB x) = (some (l' ++ [noTok]), e) → l' = progT x := fun l' e h' => by
    rw [htok] at h'; injection h' with h' _; injection h' with h'
    exact (List.append_cancel_right h').symm
  constructor
  · unfold parseS
    rw [htok]
    show resS (progS (sp0 ((progT x ++ [noTok]).dropLast))) = _
    rw [List.dropLast_concat, h1]
    simp [resS, mkS, hc]
  · refine ⟨fun l' e h' y q hy => ?_⟩
    rw [key l' e h', h1] at hy
    injection hy with hy
    injection hy with y1 _
    subst y1
    exact ho.small
end Go.Ax

namespace Go.Ax
open Go.Proofs Go.Lib
set_option maxRecDepth 10000
theorem eqAll_F (p : PairT) : eqAll [.int .i64, .int .u16] (rowF p) (rowF p) 0 = true := by
  show ((p.1 == p.1) && ((p.2 == p.2) && true)) = true
  simp
theorem sameprs_ctr (g : GP) (l : List PairT) (hl : l.length < 2 ^ 62) : Ctr (ax g).E 59 [.d (.sl false 2 (l.map rowF)), .d (.sl false 2 (l.map rowF))] [] (fun o => o = .ret (.bool true) []) := by
  refine Ctr.body (X := ax g) _ 26 [] [.tmp 4] Tryz.func59 rfl rfl rfl rfl (by decide +kernel) rfl rfl ?_
  conv => whnf
  repeat' (first | (refine And.intro easyA ?_; conv => whnf) | (refine ifB_intro (fun hA => ?_) (fun hA => ?_) <;> (try rw [hA]) <;> (conv => whnf) <;> (first | replace hA := nrmA hA | replace hA := nrmB hA | replace hA := nrmC hA | replace hA := nrmD hA | replace hA := nrmE hA | replace hA := nrmF hA | skip) <;> (try simp only [List.length_map, ne_eq] at hA)) | (rw [getD_map _ _ _ _ (by assumption)]; conv => whnf))
  · exfalso; simp at hA
  · refine LoopP.inv (X := ax g) (fun i : Nat => { f := [(0, .d (.sl false 2 (l.map rowF))), (1, .d (.sl false 2 (l.map rowF))), (4, .bool false), (5, .i64 i)], h := [] }) (fun i => i ≤ l.length) (fun i => l.length - i) 0 (Nat.zero_le _) ⟨⟨rfl, rfl, rfl, rfl, trivial⟩, trivial⟩ fun i hi => ?_
    conv => whnf
    refine ifB_intro (fun h => ?_) (fun h => ?_)
    · have hlt : i < l.length := by simpa using h
      conv => whnf
      repeat' (first | (refine And.intro easyA ?_; conv => whnf) | (refine ifB_intro (fun hA => ?_) (fun hA => ?_) <;> (try rw [hA]) <;> (conv => whnf) <;> (first | replace hA := nrmA hA | replace hA := nrmB hA | replace hA := nrmC hA | replace hA := nrmD hA | replace hA := nrmE hA | replace hA := nrmF hA | skip) <;> (try simp only [Bool.not_eq_true', Bool.not_eq_false'] at hA)) | (refine DrawP.intro (X := ax g) (id := 6) B59_6 (by kernel_rfl) (by decide +kernel) ?_; conv => whnf) | (rw [getD_map rowF l i [] hlt]; conv => whnf) | (rw [getD_map _ _ _ _ (by assumption)]; conv => whnf))
      · have h9 : eqAll [.int .i64, .int .u16] (cut 0 2 (rowF l[i])) (cut 0 2 (rowF l[i])) 0 = true := eqAll_F l[i]
        rw [h9] at hA; simp at hA
      · exact ⟨i + 1, by omega, by omega, ⟨⟨rfl, rfl, rfl, AV.int_eq (i64_succ (by omega)), trivial⟩, trivial⟩⟩
    · conv => whnf
      refine ⟨⟨[], ?_⟩⟩
      conv => whnf
theorem samepol_ctr (g : GP) : ∀ (m : Nat) (p : PolT), sizeP p ≤ m → sizeP p < 2 ^ 62 → Ctr (ax g).E 58 [.dagg (rowP4 p), .dagg (rowP4 p)] [] (fun o => o = .ret (.bool true) [])
  | 0, p, h, _ => by have := sizeP_pos p; omega
  | m + 1, p, hm, hs => by
    have ih := samepol_ctr g m
    rw [sizeP_at] at hm hs
    have hlen := sizesP_len p.kids
    refine Ctr.body (X := ax g) _ 53 [] [.tmp 4] Tryz.func58 rfl rfl rfl rfl (by decide +kernel) rfl rfl ?_
    conv => whnf
    repeat' (first | (refine And.intro easyA ?_; conv => whnf) | (refine ifB_intro (fun hA => ?_) (fun hA => ?_) <;> (try rw [hA]) <;> (conv => whnf) <;> (first | replace hA := nrmA hA | replace hA := nrmB hA | replace hA := nrmC hA | replace hA := nrmD hA | replace hA := nrmE hA | replace hA := nrmF hA | skip) <;> (try simp only [List.length_map, ne_eq] at hA)) | (rw [getD_map _ _ _ _ (by assumption)]; conv => whnf))
    all_goals first
      | (exfalso; simp at hA; done)
      | skip
    refine LoopP.inv (X := ax g) (fun i : Nat => { f := [(2, .ptr 2 0), (3, .ptr 3 0), (4, .bool false), (5, .i64 i)], h := [(2, some (.dvar 4 (rowP4 p))), (3, some (.dvar 4 (rowP4 p)))] }) (fun i => i ≤ p.kids.length) (fun i => p.kids.length - i) 0 (Nat.zero_le _) ⟨⟨rfl, rfl, rfl, rfl, trivial⟩, ⟨fun o h => h, fun o h => h, trivial⟩⟩ fun i hi => ?_
    conv => whnf
    repeat (refine And.intro easyE ?_; conv => whnf)
    refine ifB_intro (fun h2 => ?_) (fun h2 => ?_)
    · have hlt : i < p.kids.length := by simpa [rowP4, D.els] using h2
      have hmem := sizesP_mem (List.getElem_mem hlt)
      have hc := ih p.kids[i] (by omega) (by omega)
      conv => whnf
      repeat' (first | (refine And.intro easyA ?_; conv => whnf) | (refine ifB_intro (fun hA => ?_) (fun hA => ?_) <;> (try rw [hA]) <;> (conv => whnf) <;> (first | replace hA := nrmA hA | replace hA := nrmB hA | replace hA := nrmC hA | replace hA := nrmD hA | replace hA := nrmE hA | replace hA := nrmF hA | skip) <;> (try simp only [List.length_map, cond_true, cond_false, Bool.not_eq_true', Bool.not_eq_false', beq_iff_eq, beq_eq_false_iff_ne, ne_eq] at hA) <;> (try simp only [cut, D.int, D.str, D.bool, D.els, List.drop_zero, List.drop_succ_cons, List.take_succ_cons, List.take_zero, List.getD_cons_zero, List.getD_cons_succ, Nat.add_zero, Nat.zero_add, Nat.reduceAdd, rowP4] at hA)) | (refine DrawP.intro (X := ax g) (id := 6) B58_6 (by kernel_rfl) (by decide +kernel) ?_; conv => whnf) | (rw [getD_map rowO4 p.kids i [] hlt, rowO4_at]; conv => whnf) | (refine CallP.det (hc) ?_; conv => whnf) | (refine CallD.det (hc) ?_; conv => whnf) | (rw [getD_map _ _ _ _ (by assumption)]; conv => whnf))
      exact ⟨i + 1, by omega, by omega, ⟨⟨rfl, rfl, rfl, AV.int_eq (i64_succ (by omega)), trivial⟩, ⟨fun o h => h, fun o h => h, trivial⟩⟩⟩
    · conv => whnf
      refine ⟨⟨[], ?_⟩⟩
      conv => whnf
theorem same5_ctr (g : GP) (x : ProgT) (h : SmallG x) : Ctr (ax g).E 16 [.dagg (rowG x), .dagg (rowG x)] [] (fun o => o = .ret (.bool true) []) := by
  have h1 := h.init; have h2 := h.pol; have h3 := h.rules
  have hp := samepol_ctr g _ x.pol (Nat.le_refl _) h2
  refine Ctr.body (X := ax g) _ 90 [] [.tmp 4] Tryz.func16 rfl rfl rfl rfl (by decide +kernel) rfl rfl ?_
  conv => whnf
  repeat' (first | (refine And.intro easyA ?_; conv => whnf) | (refine ifB_intro (fun hA => ?_) (fun hA => ?_) <;> (try rw [hA]) <;> (conv => whnf) <;> (first | replace hA := nrmA hA | replace hA := nrmB hA | replace hA := nrmC hA | replace hA := nrmD hA | replace hA := nrmE hA | replace hA := nrmF hA | skip) <;> (try simp only [List.length_map, ne_eq] at hA)) | (refine CallP.det (hp) ?_; conv => whnf) | (refine CallD.det (hp) ?_; conv => whnf) | (rw [getD_map _ _ _ _ (by assumption)]; conv => whnf))
  all_goals first
    | (exfalso; simp at hA; done)
    | skip
  refine LoopP.inv (X := ax g) (fun i : Nat => { f := [(2, .ptr 2 0), (3, .ptr 3 0), (4, .bool false), (5, .i64 i)], h := [(2, some (.dvar 6 (rowG x))), (3, some (.dvar 6 (rowG x)))] }) (fun i => i ≤ x.init.length) (fun i => x.init.length - i) 0 (Nat.zero_le _) ⟨⟨rfl, rfl, rfl, rfl, trivial⟩, ⟨fun o h => h, fun o h => h, trivial⟩⟩ fun i hi => ?_
  conv => whnf
  repeat (refine And.intro easyE ?_; conv => whnf)
  refine ifB_intro (fun h4 => ?_) (fun h4 => ?_)
  · have hlt : i < x.init.length := by simpa [rowG, D.els] using h4
    conv => whnf
    repeat' (first | (refine And.intro easyA ?_; conv => whnf) | (refine ifB_intro (fun hA => ?_) (fun hA => ?_) <;> (try rw [hA]) <;> (conv => whnf) <;> (first | replace hA := nrmA hA | replace hA := nrmB hA | replace hA := nrmC hA | replace hA := nrmD hA | replace hA := nrmE hA | replace hA := nrmF hA | skip) <;> (try simp only [ne_eq] at hA) <;> (try simp only [cut, D.int, D.str, D.bool, D.els, List.drop_zero, List.drop_succ_cons, List.take_succ_cons, List.take_zero, List.getD_cons_zero, List.getD_cons_succ, Nat.add_zero, Nat.zero_add, Nat.reduceAdd, rowG] at hA)) | (refine DrawP.intro (X := ax g) (id := 6) B16_6 (by kernel_rfl) (by decide +kernel) ?_; conv => whnf) | (rw [getD_map rowS x.init i [] hlt]; conv => whnf) | (rw [getD_map _ _ _ _ (by assumption)]; conv => whnf))
    all_goals first
      | (exfalso; simp at hA; done)
      | exact ⟨i + 1, by omega, by omega, ⟨⟨rfl, rfl, rfl, AV.int_eq (i64_succ (by omega)), trivial⟩, ⟨fun o h => h, fun o h => h, trivial⟩⟩⟩
  · conv => whnf
    refine LoopP.inv (X := ax g) (fun i : Nat => { f := [(2, .ptr 2 0), (3, .ptr 3 0), (4, .bool false), (6, .i64 i)], h := [(2, some (.dvar 6 (rowG x))), (3, some (.dvar 6 (rowG x)))] }) (fun i => i ≤ x.rules.length) (fun i => x.rules.length - i) 0 (Nat.zero_le _) ⟨⟨rfl, rfl, rfl, rfl, trivial⟩, ⟨fun o h => h, fun o h => h, trivial⟩⟩ fun i hi => ?_
    conv => whnf
    repeat (refine And.intro easyE ?_; conv => whnf)
    refine ifB_intro (fun h5 => ?_) (fun h5 => ?_)
    · have hlt : i < x.rules.length := by simpa [rowG, D.els] using h5
      have hs := h.each _ (List.getElem_mem hlt)
      rw [SmallR] at hs
      obtain ⟨s1, s2, s3⟩ := hs
      have c1 := sameprs_ctr g x.rules[i].when (by omega)
      have c2 := sameprs_ctr g x.rules[i].guard (by omega)
      have c3 := sameprs_ctr g x.rules[i].thn (by omega)
      conv => whnf
      repeat' (first | (refine And.intro easyA ?_; conv => whnf) | (refine ifB_intro (fun hA => ?_) (fun hA => ?_) <;> (try rw [hA]) <;> (conv => whnf) <;> (first | replace hA := nrmA hA | replace hA := nrmB hA | replace hA := nrmC hA | replace hA := nrmD hA | replace hA := nrmE hA | replace hA := nrmF hA | skip) <;> (try simp only [List.length_map, cond_true, cond_false, Bool.not_eq_true', Bool.not_eq_false', beq_iff_eq, beq_eq_false_iff_ne, ne_eq] at hA) <;> (try simp only [cut, D.int, D.str, D.bool, D.els, List.drop_zero, List.drop_succ_cons, List.take_succ_cons, List.take_zero, List.getD_cons_zero, List.getD_cons_succ, Nat.add_zero, Nat.zero_add, Nat.reduceAdd, rowG] at hA)) | (rw [getD_map rowR x.rules i [] hlt]; conv => whnf) | (refine CallP.det (c1) ?_; conv => whnf) | (refine CallD.det (c1) ?_; conv => whnf) | (refine CallP.det (c2) ?_; conv => whnf) | (refine CallD.det (c2) ?_; conv => whnf) | (refine CallP.det (c3) ?_; conv => whnf) | (refine CallD.det (c3) ?_; conv => whnf) | (rw [getD_map _ _ _ _ (by assumption)]; conv => whnf))
      exact ⟨i + 1, by omega, by omega, ⟨⟨rfl, rfl, rfl, AV.int_eq (i64_succ (by omega)), trivial⟩, ⟨fun o h => h, fun o h => h, trivial⟩⟩⟩
    · conv => whnf
      refine ⟨⟨[], ?_⟩⟩
      conv => whnf
theorem showBack_ctr (g : GP) (hp : ∀ w, g.G w → PowG w) (hg : ∀ w, g.G w → LibG w) (init : List Int) (l : List StepT) (rules : List RuleT) (ht : TypS init l rules) (h1 : init.length < 2 ^ 62) (h2 : l.length < 2 ^ 62) (h3 : rules.length < 2 ^ 62) :
    Ctr (ax g).E 3 [.d (.sl false 1 (init.map rowS)), .d (.sl false 4 (l.map rowSt)), .d (.sl false 3 (rules.map rowR))] [] (fun o => o = .ret (.bool true) []) := by
  refine Ctr.body (X := ax g) _ 58 [] [.tmp 6] Tryz.func3 rfl rfl rfl rfl (by decide +kernel) rfl rfl ?_
  conv => whnf
  repeat' (first | (refine And.intro easyA ?_; conv => whnf) | (refine ifB_intro (fun hA => ?_) (fun hA => ?_) <;> (try rw [hA]) <;> (conv => whnf) <;> (first | replace hA := nrmA hA | replace hA := nrmB hA | replace hA := nrmC hA | replace hA := nrmD hA | replace hA := nrmE hA | replace hA := nrmF hA | skip) <;> (try simp only [List.length_map, cond_true, cond_false, Bool.not_eq_true', Bool.not_eq_false', beq_iff_eq, beq_eq_false_iff_ne, ne_eq] at hA)) | (refine CallP.det (awake6_ctr g hp) ?_; conv => whnf) | (refine CallD.det (awake6_ctr g hp) ?_; conv => whnf) | (rw [getD_map _ _ _ _ (by assumption)]; conv => whnf))
  · have hpl := (pile_ctr g l h2 ht.l).re (post' := fun o => o = .ret (.tup [.dagg zeroP, .bool false]) [] ∨ (l.length ≤ 60 ∧ pileF l ≠ [] ∧ o = .ret (.tup [.dagg (rowP4 (topP (pileF l))), .bool true]) [])) fun o ho => by
      rcases ho with ⟨_, rfl⟩ | ⟨_, _, rfl⟩ | ⟨h60, hne, r, hr, rfl⟩
      · exact ⟨_, _, rfl, fun _ _ _ _ H => H, fun q => rfl, .inl rfl⟩
      · exact ⟨_, _, rfl, fun _ _ _ _ H => H, fun q => rfl, .inl rfl⟩
      · refine ⟨_, .tup [.dagg (rowP4 (topP (pileF l))), .bool true], rfl, fun w Im ρ v H => ?_, fun q => rfl, .inr ⟨h60, hne, rfl⟩⟩
        cases H with
        | tup cs _ hl hr2 =>
          refine .tup cs _ hl fun i v x e1 e2 => ?_
          match i with
          | 0 =>
            simp at e2; subst e2
            exact (hr2 0 v (.dagg r) e1 rfl).dagg_dl hr
          | 1 =>
            simp at e2; subst e2
            exact hr2 1 v _ e1 rfl
          | n + 2 => simp at e2
    refine CallP.cases hpl fun o ho => ?_
    rcases ho with rfl | ⟨h60, hne, rfl⟩
    · refine ⟨_, rfl, ?_⟩
      conv => whnf
      repeat' (first | (refine And.intro easyA ?_; conv => whnf) | (refine ifB_intro (fun hA => ?_) (fun hA => ?_) <;> (try rw [hA]) <;> (conv => whnf) <;> (first | replace hA := nrmA hA | replace hA := nrmB hA | replace hA := nrmC hA | replace hA := nrmD hA | replace hA := nrmE hA | replace hA := nrmF hA | skip) <;> (try simp only [List.length_map, cond_true, cond_false, Bool.not_eq_true', Bool.not_eq_false', beq_iff_eq, beq_eq_false_iff_ne, ne_eq] at hA)) | (rw [getD_map _ _ _ _ (by assumption)]; conv => whnf))
      all_goals (refine ⟨⟨[], ?_⟩⟩; (conv => whnf))
    · refine ⟨_, rfl, ?_⟩
      obtain ⟨t1, t2⟩ := top_ok ht.l h60 hne
      generalize topP (pileF l) = p at t1 t2
      conv => whnf
      repeat' (first | (refine And.intro easyA ?_; conv => whnf) | (refine ifB_intro (fun hA => ?_) (fun hA => ?_) <;> (try rw [hA]) <;> (conv => whnf) <;> (first | replace hA := nrmA hA | replace hA := nrmB hA | replace hA := nrmC hA | replace hA := nrmD hA | replace hA := nrmE hA | replace hA := nrmF hA | skip) <;> (try simp only [List.length_map, cond_false, Bool.not_eq_true', Bool.not_eq_false'] at hA)) | (refine CallP.det (few_ctr g rules (by omega)) ?_; conv => whnf) | (refine CallD.det (few_ctr g rules (by omega)) ?_; conv => whnf) | (rw [getD_map _ _ _ _ (by assumption)]; conv => whnf))
      · refine ⟨⟨[], ?_⟩⟩
        conv => whnf
      · refine ⟨⟨[], ?_⟩⟩
        conv => whnf
      · obtain ⟨f1, f2⟩ := fewF_at hA
        have hty : ∀ r ∈ rules, TypR r := fun r hr => ⟨ht.when r hr, ht.guard r hr, ht.thn r hr, by have := f2 r hr; omega, by have := f2 r hr; omega, by have := f2 r hr; omega⟩
        have ho : OkG ⟨init, p, rules⟩ := ⟨ht.init, by show init.length ≤ _; omega, t1, by show sizeP p ≤ _; omega, hty, by show rules.length ≤ _; omega⟩
        have hsm : SmallG ⟨init, p, rules⟩ := ho.small
        have c1 := showprog_ctr g hp ⟨init, p, rules⟩ ho
        have c2 := rcheck5_ctr g ⟨init, p, rules⟩ hsm
        have c5 := same5_ctr g ⟨init, p, rules⟩ hsm
        by_cases hc : checkP ⟨init, p, rules⟩ = 0
        · have e2 : showGF ⟨init, p, rules⟩ = progB ⟨init, p, rules⟩ := if_pos hc
          rw [e2] at c1
          rw [hc] at c2
          by_cases hsz : (progB ⟨init, p, rules⟩).size ≤ 4000
          · obtain ⟨k1, k2⟩ := show_back ho hc hsz
            have c3 := parse5_ctr g hg (progB ⟨init, p, rules⟩) (by omega) k2
            rw [k1] at c3
            repeat' (first | (refine And.intro easyA ?_; conv => whnf) | (refine ifB_intro (fun hA => ?_) (fun hA => ?_) <;> (try rw [hA]) <;> (conv => whnf) <;> (first | replace hA := nrmA hA | replace hA := nrmB hA | replace hA := nrmC hA | replace hA := nrmD hA | replace hA := nrmE hA | replace hA := nrmF hA | skip) <;> (try simp only [List.length_map, cond_true, cond_false, Bool.not_eq_true', Bool.not_eq_false', beq_iff_eq, beq_eq_false_iff_ne, ne_eq] at hA)) | (refine CallP.det (c1) ?_; conv => whnf) | (refine CallD.det (c1) ?_; conv => whnf) | (refine CallP.det (c2) ?_; conv => whnf) | (refine CallD.det (c2) ?_; conv => whnf) | (exfalso; omega) | (refine CallP.det (c3) ?_; conv => whnf) | (refine CallD.det (c3) ?_; conv => whnf) | (refine CallP.det (c5) ?_; conv => whnf) | (refine CallD.det (c5) ?_; conv => whnf) | (rw [getD_map _ _ _ _ (by assumption)]; conv => whnf))
            refine ⟨⟨[], ?_⟩⟩
            conv => whnf
            first | done | rfl
          · repeat' (first | (refine And.intro easyA ?_; conv => whnf) | (refine ifB_intro (fun hA => ?_) (fun hA => ?_) <;> (try rw [hA]) <;> (conv => whnf) <;> (first | replace hA := nrmA hA | replace hA := nrmB hA | replace hA := nrmC hA | replace hA := nrmD hA | replace hA := nrmE hA | replace hA := nrmF hA | skip) <;> (try simp only [List.length_map, cond_true, cond_false, Bool.not_eq_true', Bool.not_eq_false', beq_iff_eq, beq_eq_false_iff_ne, ne_eq] at hA)) | (refine CallP.det (c1) ?_; conv => whnf) | (refine CallD.det (c1) ?_; conv => whnf) | (refine CallP.det (c2) ?_; conv => whnf) | (refine CallD.det (c2) ?_; conv => whnf) | (exfalso; omega) | (rw [getD_map _ _ _ _ (by assumption)]; conv => whnf))
            refine ⟨⟨[], ?_⟩⟩
            conv => whnf
            first | done | rfl
        · have e2 : showGF ⟨init, p, rules⟩ = ⟨#[]⟩ := if_neg hc
          rw [e2] at c1
          repeat' (first | (refine And.intro easyA ?_; conv => whnf) | (refine ifB_intro (fun hA => ?_) (fun hA => ?_) <;> (try rw [hA]) <;> (conv => whnf) <;> (first | replace hA := nrmA hA | replace hA := nrmB hA | replace hA := nrmC hA | replace hA := nrmD hA | replace hA := nrmE hA | replace hA := nrmF hA | skip) <;> (try simp only [ne_eq] at hA)) | (refine CallP.det (c1) ?_; conv => whnf) | (refine CallD.det (c1) ?_; conv => whnf) | (refine CallP.det (c2) ?_; conv => whnf) | (refine CallD.det (c2) ?_; conv => whnf) | (rw [getD_map _ _ _ _ (by assumption)]; conv => whnf))
          all_goals first
            | exact absurd ‹_› hc
            | (refine ⟨⟨[], ?_⟩⟩; (conv => whnf); first | done | rfl)
end Go.Ax
