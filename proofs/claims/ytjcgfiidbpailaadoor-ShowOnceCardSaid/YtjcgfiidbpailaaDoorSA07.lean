/- What the card of this claim stands on, or the card itself: for every input, as the given row says. -/
import Derived.Test.YtjcgfiidbpailaaDoorSA06
namespace Go.Ax
def swp (a b r : Nat) : Nat := match Nat.beq r a with
  | true => b
  | false => match Nat.beq r b with
    | true => a
    | false => r
theorem swp_eq (a b r : Nat) : swp a b r = if r = a then b else if r = b then a else r := by
  unfold swp
  by_cases h : r = a
  · subst h; simp
  · have h1 : Nat.beq r a = false := by
      cases hb : Nat.beq r a with
      | false => rfl
      | true => exact absurd (Nat.eq_of_beq_eq_true hb) h
    simp only [h1, if_neg h]
    by_cases h2 : r = b
    · subst h2; simp
    · have h3 : Nat.beq r b = false := by
        cases hb : Nat.beq r b with
        | false => rfl
        | true => exact absurd (Nat.eq_of_beq_eq_true hb) h2
      simp [h3, h2]
theorem swp_swp (a b r : Nat) : swp a b (swp a b r) = r := by
  simp only [swp_eq]
  by_cases h : r = a
  · subst h; by_cases h2 : b = r <;> simp [h2]
  · by_cases h2 : r = b
    · subst h2; simp [h]
    · simp [h, h2]
theorem swp_inj {a b x y : Nat} (h : swp a b x = swp a b y) : x = y := by rw [← swp_swp a b x, h, swp_swp]
mutual
def AV.swap (a b : Nat) : AV → AV
  | .junk => .junk
  | .d x => .d x
  | .dagg cs => .dagg cs
  | .agg cs => .agg (AV.swapL a b cs)
  | .tup vs => .tup (AV.swapL a b vs)
  | .ptr r off => .ptr (swp a b r) off
  | .ep cs => .ep cs
  | .msl r n off len => .msl (swp a b r) n off len
  | .mptr r n i j => .mptr (swp a b r) n i j
  | .mp r => .mp (swp a b r)
  | .clo fn f c => .clo fn (AV.swapL a b f) (AV.swapL a b c)
  | .ifc t x => .ifc t (AV.swap a b x)
def AV.swapL (a b : Nat) : List AV → List AV
  | [] => []
  | x :: xs => AV.swap a b x :: AV.swapL a b xs
end
def AObj.swap (a b : Nat) : AObj → AObj
  | .var cs => .var (AV.swapL a b cs)
  | .dvar n cs => .dvar n cs
  | .buf sz e els => .buf sz e els
  | .map ag es => .map ag es
  | .siter m p => .siter m p
  | .tvar t cs => .tvar t cs
  | .ext R => .ext R
  | .gst K h0 R => .gst K h0 R
def HL.swap (a b : Nat) : HL → HL
  | [] => []
  | (r, some o) :: h => (swp a b r, some (o.swap a b)) :: HL.swap a b h
  | (r, none) :: h => (swp a b r, none) :: HL.swap a b h
theorem swapL_get (a b : Nat) : ∀ (l : List AV) (i : Nat), (AV.swapL a b l)[i]? = (l[i]?).map (AV.swap a b)
  | [], i => by simp [AV.swapL]
  | x :: xs, 0 => by simp [AV.swapL]
  | x :: xs, i + 1 => by simp [AV.swapL, swapL_get a b xs i]
theorem swapL_length (a b : Nat) : ∀ (l : List AV), (AV.swapL a b l).length = l.length
  | [] => rfl
  | x :: xs => by simp [AV.swapL, swapL_length a b xs]
theorem RA.swap {h : Nat → Option Obj} {Im : Nat → Prop} {ρ ρ' : Nat → Option Loc} (a b : Nat) (hρ : ∀ r, ρ' (swp a b r) = ρ r) {v : Value} {x : AV} (H : RA h Im ρ v x) : RA h Im ρ' v (x.swap a b) := by
  induction H with
  | junk x => exact .junk x
  | d x y hd => exact .d x y hd
  | dagg cs l hl hr => exact .dagg cs l hl hr
  | agg cs l hl hr ih =>
    exact .agg cs _ (by rw [swapL_length]; exact hl) fun i v x h1 h2 => by
      rw [swapL_get, Option.map_eq_some_iff] at h2
      obtain ⟨y, hy, rfl⟩ := h2
      exact ih i v y h1 hy
  | tup cs l hl hr ih =>
    exact .tup cs _ (by rw [swapL_length]; exact hl) fun i v x h1 h2 => by
      rw [swapL_get, Option.map_eq_some_iff] at h2
      obtain ⟨y, hy, rfl⟩ := h2
      exact ih i v y h1 hy
  | ptr x r off h1 hp => exact .ptr x _ off h1 fun l hl => hp l (by rw [← hρ r]; exact hl)
  | ep b o cs f hb hc hr => exact .ep b o cs f hb hc hr
  | msl x r n off len h1 hp => exact .msl x _ n off len h1 fun l hl => hp l (by rw [← hρ r]; exact hl)
  | mptr x r n i j h1 hp => exact .mptr x _ n i j h1 fun l hl => hp l (by rw [← hρ r]; exact hl)
  | mp x r h1 hp => exact .mp x _ h1 fun l hl => hp l (by rw [← hρ r]; exact hl)
  | clo fn fs cs lf lc hf hc hrf hrc ihf ihc =>
    exact .clo fn fs cs _ _ (by rw [swapL_length]; exact hf) (by rw [swapL_length]; exact hc)
      (fun i v x h1 h2 => by
        rw [swapL_get, Option.map_eq_some_iff] at h2
        obtain ⟨y, hy, rfl⟩ := h2
        exact ihf i v y h1 hy) (fun i v x h1 h2 => by
        rw [swapL_get, Option.map_eq_some_iff] at h2
        obtain ⟨y, hy, rfl⟩ := h2
        exact ihc i v y h1 hy)
  | ifc t x y hx ih => exact .ifc t x _ ih
theorem RO.swap {h : Nat → Option Obj} {Im : Nat → Prop} {ρ ρ' : Nat → Option Loc} (a b : Nat) (hρ : ∀ r, ρ' (swp a b r) = ρ r) {l : Loc} {o : AObj} (H : RO h Im ρ l o) : RO h Im ρ' l (o.swap a b) := by
  cases o with
  | var cs =>
    refine ⟨H.1, H.2.1, ?_⟩
    obtain ⟨bk, ms, t, h1, h2, h3, h4⟩ := H.2.2
    refine ⟨bk, ms, t, h1, h2, by rw [swapL_length]; exact h3, fun i v hv x hx => ?_⟩
    rw [swapL_get, Option.map_eq_some_iff] at hx
    obtain ⟨y, hy, rfl⟩ := hx
    exact ⟨(h4 i v hv y hy).1.swap a b hρ, (h4 i v hv y hy).2⟩
  | dvar n cs => exact H
  | buf sz e els => exact H
  | map ag es => exact H
  | siter m p => exact H
  | tvar t cs => exact H
  | ext R => exact H
  | gst K h0 R => exact H
theorem lkH_swap (a b r : Nat) : ∀ (h : HL), lkH (swp a b r) (HL.swap a b h) = (lkH r h).map (AObj.swap a b)
  | [] => rfl
  | (q, some o) :: h => by
    simp only [HL.swap, lkH]
    by_cases e : q = r
    · subst e; simp
    · have h1 : Nat.beq q r = false := by
        cases hb : Nat.beq q r with
        | false => rfl
        | true => exact absurd (Nat.eq_of_beq_eq_true hb) e
      have h2 : Nat.beq (swp a b q) (swp a b r) = false := by
        cases hb : Nat.beq (swp a b q) (swp a b r) with
        | false => rfl
        | true => exact absurd (swp_inj (Nat.eq_of_beq_eq_true hb)) e
      simp only [h1, h2]; exact lkH_swap a b r h
  | (q, none) :: h => by
    simp only [HL.swap, lkH]
    by_cases e : q = r
    · subst e; simp
    · have h1 : Nat.beq q r = false := by
        cases hb : Nat.beq q r with
        | false => rfl
        | true => exact absurd (Nat.eq_of_beq_eq_true hb) e
      have h2 : Nat.beq (swp a b q) (swp a b r) = false := by
        cases hb : Nat.beq (swp a b q) (swp a b r) with
        | false => rfl
        | true => exact absurd (swp_inj (Nat.eq_of_beq_eq_true hb)) e
      simp only [h1, h2]; exact lkH_swap a b r h
theorem lkH_unswap {a b r : Nat} {h : HL} {o : AObj} (hr : lkH r (HL.swap a b h) = some o) : ∃ o', lkH (swp a b r) h = some o' ∧ o = o'.swap a b := by
  have := lkH_swap a b (swp a b r) h
  rw [swp_swp, hr] at this
  obtain ⟨o', h1, h2⟩ := Option.map_eq_some_iff.1 this.symm
  exact ⟨o', h1, h2.symm⟩
theorem ment_swap (a b : Nat) : ∀ (r : Nat) (x : AV), (x.swap a b).ment r = x.ment (swp a b r) := by
  have hb : ∀ q r, Nat.beq (swp a b q) r = Nat.beq q (swp a b r) := fun q r => by
    by_cases e : q = swp a b r
    · subst e; rw [swp_swp]; simp
    · have h1 : Nat.beq q (swp a b r) = false := by
        cases hb : Nat.beq q (swp a b r) with
        | false => rfl
        | true => exact absurd (Nat.eq_of_beq_eq_true hb) e
      have h2 : Nat.beq (swp a b q) r = false := by
        cases hb : Nat.beq (swp a b q) r with
        | false => rfl
        | true => exact absurd (by rw [← Nat.eq_of_beq_eq_true hb, swp_swp]) e
      rw [h1, h2]
  intro r x
  induction x using AV.rec (motive_2 := fun l => AV.ment.mentL r (AV.swapL a b l) = AV.ment.mentL (swp a b r) l) with
  | junk => rfl
  | d x => rfl
  | dagg cs => rfl
  | agg cs ih => simpa [AV.swap, AV.ment] using ih
  | tup cs ih => simpa [AV.swap, AV.ment] using ih
  | ptr q off => exact hb q r
  | ep cs => rfl
  | msl q n off len => exact hb q r
  | mptr q n i j => exact hb q r
  | mp q => exact hb q r
  | clo fn f c ih1 ih2 => simp only [AV.swap, AV.ment, ih1, ih2]
  | ifc t x ih => simpa [AV.swap, AV.ment] using ih
  | nil => rfl
  | cons x xs ih1 ih2 => simp only [AV.swapL, AV.ment.mentL, ih1, ih2]
theorem mentO_swap (a b r : Nat) (x : AObj) : (x.swap a b).ment r = x.ment (swp a b r) := by
  cases x with
  | var cs =>
    simp only [AObj.swap, AObj.ment]
    induction cs with
    | nil => rfl
    | cons x xs ih => simp only [AV.swapL, AV.ment.mentL, ih, ment_swap]
  | _ => rfl
theorem Ctr.swap {E : Env} {f : FuncId} {args : List AV} {hin ho : HL} {res : AV} (a b : Nat) (h : Ctr E f args hin fun o => o = .ret res ho) : Ctr E f (AV.swapL a b args) (HL.swap a b hin) fun o => o = .ret (res.swap a b) (HL.swap a b ho) := by
  refine ⟨h.1, fun w Im ρ vs hG hIm hgl hsz hra hrel => ?_⟩
  -- the names as the contract has them
  have back : ∀ x : AV, (x.swap a b).swap a b = x := by
    intro x
    induction x using AV.rec (motive_2 := fun l => AV.swapL a b (AV.swapL a b l) = l) with
    | junk => rfl
    | d x => rfl
    | dagg cs => rfl
    | agg cs ih => simp [AV.swap, ih]
    | tup cs ih => simp [AV.swap, ih]
    | ptr q off => simp [AV.swap, swp_swp]
    | ep cs => rfl
    | msl q n off len => simp [AV.swap, swp_swp]
    | mptr q n i j => simp [AV.swap, swp_swp]
    | mp q => simp [AV.swap, swp_swp]
    | clo fn f c ih1 ih2 => simp [AV.swap, ih1, ih2]
    | ifc t x ih => simp [AV.swap, ih]
    | nil => rfl
    | cons x xs ih1 ih2 => simp [AV.swapL, ih1, ih2]
  have backO : ∀ o : AObj, (o.swap a b).swap a b = o := fun o => by
    cases o with
    | var cs =>
      have : ∀ l : List AV, AV.swapL a b (AV.swapL a b l) = l := fun l => by induction l with
        | nil => rfl
        | cons x xs ih => simp [AV.swapL, ih, back]
      simp [AObj.swap, this]
    | _ => rfl
  have hρ : ∀ r, (fun q => ρ (swp a b q)) (swp a b r) = ρ r := fun r => by simp only [swp_swp]
  have hT : ∀ bk, TIn (fun q => ρ (swp a b q)) hin bk → TIn ρ (HL.swap a b hin) bk := fun bk ⟨r, o, l, h1, h2, h3⟩ => ⟨swp a b r, o.swap a b, l, by rw [lkH_swap, h1]; rfl, h2, h3⟩
  have hT' : ∀ bk, TIn ρ (HL.swap a b hin) bk → TIn (fun q => ρ (swp a b q)) hin bk := fun bk ⟨r, o, l, h1, h2, h3⟩ => by
    obtain ⟨o', h4, _⟩ := lkH_unswap h1
    exact ⟨swp a b r, o', l, h4, by simp only [swp_swp]; exact h2, h3⟩
  have := h.2 w Im (fun q => ρ (swp a b q)) vs hG hIm hgl (by rw [hsz, swapL_length]) (fun i v x h1 h2 => by
    have h3 := hra i v (x.swap a b) h1 (by rw [swapL_get, h2]; rfl)
    have h4 := h3.swap (ρ' := fun q => ρ (swp a b q)) a b hρ
    rw [back] at h4; exact h4) ⟨fun r o hr => by
      obtain ⟨l, h1, h2, h3⟩ := hrel.obj (swp a b r) (o.swap a b) (by rw [lkH_swap, hr]; rfl)
      have h4 := h2.swap (ρ' := fun q => ρ (swp a b q)) a b hρ
      rw [backO] at h4
      exact ⟨l, h1, h4, h3⟩, fun r r' o o' l l' h1 h2 hne g1 g2 => hrel.dis (swp a b r) (swp a b r') (o.swap a b) (o'.swap a b) l l' (by rw [lkH_swap, h1]; rfl) (by rw [lkH_swap, h2]; rfl) (fun e => hne (swp_inj e)) g1 g2⟩
  refine this.mono fun e w' he => ?_
  cases e with
  | returned v =>
    obtain ⟨res', ho', Im', ρ', h1, h2, h3, A⟩ := he
    injection h1 with e1 e2; subst e1; subst e2
    have hρ' : ∀ r, (fun q => ρ' (swp a b q)) (swp a b r) = ρ' r := fun r => by simp only [swp_swp]
    refine ⟨_, _, Im', fun q => ρ' (swp a b q), rfl, h2.swap a b hρ', fun r hr => ?_, ?_⟩
    · rw [ment_swap] at hr
      have := h3 _ hr
      rw [← swp_swp a b r, lkH_swap]
      simpa using this
    · refine ⟨⟨A.grows.size, A.grows.os, A.grows.tape, A.grows.output, fun bk hb hn => A.grows.block bk hb fun h => hn (hT bk h)⟩, A.im, fun bk hb => ⟨(A.imn bk hb).1, (A.imn bk hb).2.imp id fun h => h.imp id (hT bk)⟩, ⟨fun r o hr => ?_, fun r r' o o' l l' h1 h2 hne g1 g2 => ?_⟩, fun r o hr l' hl' => ?_, fun r o hr q hq => ?_⟩
      · obtain ⟨o', h4, rfl⟩ := lkH_unswap hr
        obtain ⟨l, h5, h6, h7⟩ := A.rel.obj _ o' h4
        exact ⟨l, h5, h6.swap a b hρ', fun bk hb => ⟨(h7 bk hb).1, (h7 bk hb).2.1, (h7 bk hb).2.2.imp id (hT bk)⟩⟩
      · obtain ⟨o1, h4, _⟩ := lkH_unswap h1
        obtain ⟨o2, h5, _⟩ := lkH_unswap h2
        exact A.rel.dis _ _ o1 o2 l l' h4 h5 (fun e => hne (swp_inj e)) g1 g2
      · obtain ⟨o', h4, _⟩ := lkH_unswap hr
        obtain ⟨l, h5, h6⟩ := A.anc _ o' h4 l' hl'
        simp only [swp_swp] at h5
        exact ⟨l, h5, h6⟩
      · obtain ⟨o', h4, rfl⟩ := lkH_unswap hr
        rw [mentO_swap] at hq
        have := A.cl _ o' h4 _ hq
        rw [← swp_swp a b q, lkH_swap]
        simpa using this
  | panicked ch =>
    obtain ⟨ho', Im', ρ', h1, h4⟩ := he
    exact absurd h1 (by simp)
  | outgrown => exact he
end Go.Ax
namespace Go.Ax
theorem Ctr.swapG {E : Env} {f : FuncId} {args : List AV} {hin : HL} {post post' : AOut → Prop} (a b : Nat) (h : Ctr E f args hin post) (hr : ∀ res ho, post (.ret res ho) → post' (.ret (res.swap a b) (HL.swap a b ho))) (hp : ∀ ch ho, post (.pan ch ho) → post' (.pan ch (HL.swap a b ho))) : Ctr E f (AV.swapL a b args) (HL.swap a b hin) post' := by
  refine ⟨h.1, fun w Im ρ vs hG hIm hgl hsz hra hrel => ?_⟩
  -- the names as the contract has them
  have back : ∀ x : AV, (x.swap a b).swap a b = x := by
    intro x
    induction x using AV.rec (motive_2 := fun l => AV.swapL a b (AV.swapL a b l) = l) with
    | junk => rfl
    | d x => rfl
    | dagg cs => rfl
    | agg cs ih => simp [AV.swap, ih]
    | tup cs ih => simp [AV.swap, ih]
    | ptr q off => simp [AV.swap, swp_swp]
    | ep cs => rfl
    | msl q n off len => simp [AV.swap, swp_swp]
    | mptr q n i j => simp [AV.swap, swp_swp]
    | mp q => simp [AV.swap, swp_swp]
    | clo fn f c ih1 ih2 => simp [AV.swap, ih1, ih2]
    | ifc t x ih => simp [AV.swap, ih]
    | nil => rfl
    | cons x xs ih1 ih2 => simp [AV.swapL, ih1, ih2]
  have backO : ∀ o : AObj, (o.swap a b).swap a b = o := fun o => by
    cases o with
    | var cs =>
      have : ∀ l : List AV, AV.swapL a b (AV.swapL a b l) = l := fun l => by induction l with
        | nil => rfl
        | cons x xs ih => simp [AV.swapL, ih, back]
      simp [AObj.swap, this]
    | _ => rfl
  have hρ : ∀ r, (fun q => ρ (swp a b q)) (swp a b r) = ρ r := fun r => by simp only [swp_swp]
  have hT : ∀ bk, TIn (fun q => ρ (swp a b q)) hin bk → TIn ρ (HL.swap a b hin) bk := fun bk ⟨r, o, l, h1, h2, h3⟩ => ⟨swp a b r, o.swap a b, l, by rw [lkH_swap, h1]; rfl, h2, h3⟩
  have hT' : ∀ bk, TIn ρ (HL.swap a b hin) bk → TIn (fun q => ρ (swp a b q)) hin bk := fun bk ⟨r, o, l, h1, h2, h3⟩ => by
    obtain ⟨o', h4, _⟩ := lkH_unswap h1
    exact ⟨swp a b r, o', l, h4, by simp only [swp_swp]; exact h2, h3⟩
  have := h.2 w Im (fun q => ρ (swp a b q)) vs hG hIm hgl (by rw [hsz, swapL_length]) (fun i v x h1 h2 => by
    have h3 := hra i v (x.swap a b) h1 (by rw [swapL_get, h2]; rfl)
    have h4 := h3.swap (ρ' := fun q => ρ (swp a b q)) a b hρ
    rw [back] at h4; exact h4) ⟨fun r o hr => by
      obtain ⟨l, h1, h2, h3⟩ := hrel.obj (swp a b r) (o.swap a b) (by rw [lkH_swap, hr]; rfl)
      have h4 := h2.swap (ρ' := fun q => ρ (swp a b q)) a b hρ
      rw [backO] at h4
      exact ⟨l, h1, h4, h3⟩, fun r r' o o' l l' h1 h2 hne g1 g2 => hrel.dis (swp a b r) (swp a b r') (o.swap a b) (o'.swap a b) l l' (by rw [lkH_swap, h1]; rfl) (by rw [lkH_swap, h2]; rfl) (fun e => hne (swp_inj e)) g1 g2⟩
  have aft : ∀ (w' : World) (Im' : Nat → Prop) (ρ' : Nat → Option Loc) (ho' : HL), After w Im (fun q => ρ (swp a b q)) hin w' Im' ρ' ho' → After w Im ρ (HL.swap a b hin) w' Im' (fun q => ρ' (swp a b q)) (HL.swap a b ho') := fun w' Im' ρ' ho' A => by
    have hρ' : ∀ r, (fun q => ρ' (swp a b q)) (swp a b r) = ρ' r := fun r => by simp only [swp_swp]
    refine ⟨⟨A.grows.size, A.grows.os, A.grows.tape, A.grows.output, fun bk hb hn => A.grows.block bk hb fun h => hn (hT bk h)⟩, A.im, fun bk hb => ⟨(A.imn bk hb).1, (A.imn bk hb).2.imp id fun h => h.imp id (hT bk)⟩, ⟨fun r o hr => ?_, fun r r' o o' l l' h1 h2 hne g1 g2 => ?_⟩, fun r o hr l' hl' => ?_, fun r o hr q hq => ?_⟩
    · obtain ⟨o', h4, rfl⟩ := lkH_unswap hr
      obtain ⟨l, h5, h6, h7⟩ := A.rel.obj _ o' h4
      exact ⟨l, h5, h6.swap a b hρ', fun bk hb => ⟨(h7 bk hb).1, (h7 bk hb).2.1, (h7 bk hb).2.2.imp id (hT bk)⟩⟩
    · obtain ⟨o1, h4, _⟩ := lkH_unswap h1
      obtain ⟨o2, h5, _⟩ := lkH_unswap h2
      exact A.rel.dis _ _ o1 o2 l l' h4 h5 (fun e => hne (swp_inj e)) g1 g2
    · obtain ⟨o', h4, _⟩ := lkH_unswap hr
      obtain ⟨l, h5, h6⟩ := A.anc _ o' h4 l' hl'
      simp only [swp_swp] at h5
      exact ⟨l, h5, h6⟩
    · obtain ⟨o', h4, rfl⟩ := lkH_unswap hr
      rw [mentO_swap] at hq
      have := A.cl _ o' h4 _ hq
      rw [← swp_swp a b q, lkH_swap]
      simpa using this
  refine this.mono fun e w' he => ?_
  cases e with
  | returned v =>
    obtain ⟨res', ho', Im', ρ', h1, h2, h3, A⟩ := he
    have hρ' : ∀ r, (fun q => ρ' (swp a b q)) (swp a b r) = ρ' r := fun r => by simp only [swp_swp]
    refine ⟨_, _, Im', fun q => ρ' (swp a b q), hr _ _ h1, h2.swap a b hρ', fun r hr => ?_, aft _ _ _ _ A⟩
    rw [ment_swap] at hr
    have := h3 _ hr
    rw [← swp_swp a b r, lkH_swap]
    simpa using this
  | panicked ch =>
    obtain ⟨ho', Im', ρ', h1, A⟩ := he
    exact ⟨_, Im', fun q => ρ' (swp a b q), hp _ _ h1, aft _ _ _ _ A⟩
  | outgrown => exact he
end Go.Ax
