import Derived.Test.YtjokajidcojlmaaDoorEAxM
import Derived.RangeFuncRecord
import Derived.Test.YtjokajidcojlmaaDoorEAxV

/- Abstract execution, part Rf: loops over functions. -/
namespace Go.Ax

variable {X : Ax} {k : Kn}

open Classical in
/-- A heap whose blocks of K are as they were. -/
noncomputable def hat (K : Nat → Prop) (h0 h : Nat → Option Obj) : Nat → Option Obj := fun b => if K b then h0 b else h b

/-- What a loop's body has of the function that it stands in: some objects, in these blocks. -/
structure HeldAt (K : Nat → Prop) (ρ0 : Nat → Option Loc) (ids : List Nat) (H : HL) (more : List Nat) (h : Nat → Option Obj) (Im : Nat → Prop) (ρ : Nat → Option Loc) : Prop where
  k : ∀ b, K b → Im b
  im : ∀ b, Im b → K b ∨ b ∈ more
  obj : ∀ r o, lkH r H = some o → ∃ l, ρ r = some l ∧ RO h Im ρ l o ∧ ∀ b ∈ l.fp, ¬ Im b ∧ b ∈ more
  dis : ∀ r r' o o' l l', lkH r H = some o → lkH r' H = some o' → r ≠ r' → ρ r = some l → ρ r' = some l' → ∀ b ∈ l.fp, b ∉ l'.fp
  anc : ∀ r ∈ ids, ∀ l', ρ r = some l' → ∃ l, ρ0 r = some l ∧ LocStep l l'
def Held (K : Nat → Prop) (ρ0 : Nat → Option Loc) (ids : List Nat) (H : HL) (more : List Nat) (h : Nat → Option Obj) : Prop := ∃ Im ρ, HeldAt K ρ0 ids H more h Im ρ

/-- What lies where a loop over a function runs: its record, the objects. -/
def Runs (l : Nat) (K : Nat → Prop) (h0 : Nat → Option Obj) (ρ0 : Nat → Option Loc) (ids : List Nat) (S : Loop → HL → Prop) (lc : Loc) (h : Nat → Option Obj) : Prop :=
  lc.blk = some l ∧ l ∉ lc.more ∧ ∃ rc H, S rc H ∧ h l = some (.loop rc) ∧ Held K ρ0 ids H lc.more (hat K h0 h)

theorem Runs.stab {l : Nat} {K : Nat → Prop} {h0 : Nat → Option Obj} {ρ0 : Nat → Option Loc} {ids : List Nat} {S : Loop → HL → Prop} {lc : Loc} (h h' : Nat → Option Obj) (he : ∀ b ∈ lc.fp, h' b = h b) (H : Runs l K h0 ρ0 ids S lc h) : Runs l K h0 ρ0 ids S lc h' := by
  obtain ⟨h1, h2, rc, hl, h3, h4, Im, ρ, g⟩ := H
  have hfp : ∀ b, b ∈ lc.more → b ∈ lc.fp := fun b hb => by simp [Loc.fp, hb]
  have hh : ∀ b, (K b ∨ b ∈ lc.more) → hat K h0 h' b = hat K h0 h b := fun b hb => by
    unfold hat
    split
    · rfl
    · rename_i hk; exact he b (hfp b (hb.resolve_left hk))
  refine ⟨h1, h2, rc, hl, h3, (he l (by simp [Loc.fp, h1])).trans h4, Im, ρ, g.k, g.im, fun r o hr => ?_, g.dis, g.anc⟩
  obtain ⟨lo, e1, e2, e3⟩ := g.obj r o hr
  exact ⟨lo, e1, e2.mono (fun _ h => h) (fun b hb => hh b (g.im b hb)) (fun b hb => hh b (.inr (e3 b hb).2)) (fun q _ l' hl' => ⟨l', hl', .inl rfl⟩), e3⟩

/-- What a function that is ranged over hands to yield, one by one, as long as there is no 'no'. -/
def IterC (E : Env) (gf : FuncId) (caps : List AV) (hin : HL) {α : Type} (enc : α → Value) (xs : List α) : Prop :=
  ∀ (l : Nat) (K : Nat → Prop) (h0 : Nat → Option Obj) (R : List α → Loc → (Nat → Option Obj) → Prop) (Rx : Loc → (Nat → Option Obj) → Prop),
    (∀ pre x post, xs = pre ++ x :: post → YCtr E l [.d (.v (enc x))] [(9009, some (.gst K h0 (R pre)))] fun o => o = .ret (.d (.v (.bool true))) [(9009, some (.gst K h0 (R (pre ++ [x]))))] ∨ o = .ret (.d (.v (.bool false))) [(9009, some (.gst K h0 Rx))]) →
    Ctr E gf (.clo (.yield l) [] [] :: caps) ((9009, some (.gst K h0 (R []))) :: hin) fun o => ∃ res, o = .ret res [(9009, some (.gst K h0 (R xs)))] ∨ o = .ret res [(9009, some (.gst K h0 Rx))]

/-- What a round's body leaves. -/
def roundQ (f0 : List (Nat × AV)) (h1 : HL) (Q : APost) : APost
  | .normal, s => LeH h1 s.h
  | .ret, s => lkH TOP s.h = none ∧ Q .ret { f := f0, h := s.h }
  | .exit id, s => lkH TOP s.h = none ∧ Q (.exit id) { f := f0, h := s.h }
  | _, _ => False

/-- The jumps by which a round is left. -/
def Jumps (f0 : List (Nat × AV)) (Q : APost) : Code → HL → Prop
  | .ret, h => lkH TOP h = none ∧ Q .ret { f := f0, h }
  | .exit id, h => lkH TOP h = none ∧ Q (.exit id) { f := f0, h }
  | _, _ => False

abbrev recOf (fn : FuncId) (tmps : Array Value) (p : Tmp) (assign body : Code) (D : Nat) (st : LoopState) (pe : Option Code) : Loop := { state := st, pending := pe, fn, tmps, params := #[p], assign, body, defers := D }

theorem putObj_ne {w : World} {l b : Nat} {o : Obj} (h : b ≠ l) : hp (w.putObj l o) b = hp w b := World.putObj_heap_other h

theorem putObj_cells {w : World} {l b : Nat} {o : Obj} (ho : ∀ cs t fz, o ≠ .cells cs t fz) {cs : Array Value} {t : TypeId} {fz : Nat × Nat} (h : hp (w.putObj l o) b = some (.cells cs t fz)) : hp w b = some (.cells cs t fz) := by
  by_cases e : b = l
  · subst e
    have hlt : b < w.heap.size := by
      have := (Array.getElem?_eq_some_iff.1 (show (w.putObj b o).heap[b]? = _ from h)).1
      rwa [World.putObj_size] at this
    rw [show hp (w.putObj b o) b = some o from World.putObj_heap_same hlt] at h
    injection h with h; exact absurd h (ho cs t fz)
  · rwa [putObj_ne e] at h

/-- The sameness of cells suffices to see a state with another world. -/
theorem Sim.other {c c' : Cx} {Im : Nat → Prop} {ρ : Nat → Option Loc} {s : St} {a : Act} {w : World} (S : Sim c Im ρ s.F s.H a w) {l : Nat} {o : Obj} (hl : ∀ cs t fz, hp w l ≠ some (.cells cs t fz)) (ho : ∀ cs t fz, o ≠ .cells cs t fz) (hI : ¬ Im l) (hf : ∀ r o lo, s.H r = some o → ρ r = some lo → l ∉ lo.fp)
    (e1 : c'.w0 = w.putObj l o) (e2 : ∀ b, c'.fp b ↔ ∃ r o l, s.H r = some o ∧ ρ r = some l ∧ b ∈ l.fp) (e3 : c'.Im0 = Im) (e4 : c'.nt = c.nt) (e5 : c'.ρ0 = ρ) (e6 : c'.defs = a.defers) : Sim c' Im ρ s.F s.H a (w.putObj l o) := by
  have hh : ∀ b cs t fz, hp w b = some (.cells cs t fz) → hp (w.putObj l o) b = some (.cells cs t fz) := fun b cs t fz h => by
    rw [putObj_ne fun e => hl cs t fz (by rw [← e]; exact h)]; exact h
  have hrv : ∀ b cs t fz, hp (w.putObj l o) b = some (.cells cs t fz) → hp w b = some (.cells cs t fz) := fun b cs t fz h => putObj_cells ho h
  refine { defs := by rw [e6]; exact .none, nt := by rw [e4]; exact S.nt, fr := fun t ht => (S.fr t (by rw [← e4]; exact ht)).cell' hh, obj := fun r ob hr => ?_, dis := S.dis, imn := fun b hb => ⟨by rw [World.putObj_size]; exact (S.imn b hb).1, .inl (by rw [e3]; exact hb)⟩, im0 := fun b hb => by rw [e3] at hb; exact hb, os := by rw [e1], tape := by rw [e1], output := by rw [e1], size := by rw [e1]; exact Nat.le_refl _, kept := fun b _ _ => by rw [e1], anc := fun r _ l' hl' => ⟨l', by rw [e5]; exact hl', .inl rfl⟩ }
  obtain ⟨lo, g1, g2, g3⟩ := S.obj r ob hr
  exact ⟨lo, g1, g2.cell' hh hrv fun b hb => putObj_ne fun e => hf r ob lo hr g1 (e ▸ hb), fun b hb => ⟨by rw [World.putObj_size]; exact (g3 b hb).1, (g3 b hb).2.1, .inr ((e2 b).2 ⟨r, ob, lo, hr, g1, hb⟩)⟩⟩

theorem closed_nil {h : HL} {x : AV} (hx : ∀ r, x.ment r = false) : Closed h x := fun r hr => by rw [hx r] at hr; exact absurd hr (by simp)

/-- One round. -/
theorem round_ok {α : Type} {enc : α → Value} {fn : FuncId} {a : Act} {p : Tmp} {assign body : Code} {D l : Nat} {K : Nat → Prop} {h0 : Nat → Option Obj} {ρ0 : Nat → Option Loc} {ids : List Nat} {f0 : List (Nat × AV)} {nt : Nat} {Q : APost} {H H' : HL} {x : α}
    (hKg : ∀ b, b < X.E.ng → K b) (hfr : ∀ t, t < nt → RA h0 K ρ0 (a.tmps.getD t undef) (lk t f0)) (hf0 : ∀ t r, (lk t f0).ment r = true → r ∈ ids) (hnt : a.tmps.size = nt) (hp1 : p < nt) (htop : TOP ∉ ids)
    (hround : AWp X.E { nt, anc := ids } assign (thenP (fun s1 => AWp X.E { nt, anc := ids } body (roundQ f0 H' Q) s1) (fun _ _ => False)) { f := (p, .d (.v (enc x))) :: f0, h := H }) :
    YCtr X.E l [.d (.v (enc x))] [(9009, some (.gst K h0 (Runs l K h0 ρ0 ids fun rc h => rc = recOf fn a.tmps p assign body D .ready none ∧ h = H)))] fun o =>
      o = .ret (.d (.v (.bool true))) [(9009, some (.gst K h0 (Runs l K h0 ρ0 ids fun rc h => rc = recOf fn a.tmps p assign body D .ready none ∧ h = H')))] ∨
      o = .ret (.d (.v (.bool false))) [(9009, some (.gst K h0 (Runs l K h0 ρ0 ids fun rc h => ∃ j, rc = recOf fn a.tmps p assign body D .done (some j) ∧ Jumps f0 Q j h)))] := by
  intro w Im ρ vs hG hIm hgl hsz hra hrel
  obtain ⟨lc, e1, ⟨hbuf, ⟨b0, hb0⟩, hK, hst, hR⟩, hown⟩ := hrel.obj 9009 _ rfl
  obtain ⟨hblk, hnl, rc, H0, ⟨hrc, hH⟩, hrec, Imr, ρr, g⟩ := hR
  subst hrc; subst hH
  have hlfp : l ∈ lc.fp := by simp [Loc.fp, hblk]
  have hmfp : ∀ b, b ∈ lc.more → b ∈ lc.fp := fun b hb => by simp [Loc.fp, hb]
  have hfpm : ∀ b, b ∈ lc.fp → b = l ∨ b ∈ lc.more := fun b hb => by simpa [Loc.fp, hblk] using hb
  have hKl : ¬ K l := fun h => (hown l hlfp).2.1 (hK l h).1
  have hIl : ¬ Imr l := fun h => (g.im l h).elim hKl hnl
  have hlw : l < w.heap.size := (hown l hlfp).1
  -- the value
  obtain ⟨v, rfl⟩ : ∃ v, vs = #[v] := by
    match vs, hsz with
    | ⟨[v]⟩, _ => exact ⟨v, rfl⟩
    | ⟨[]⟩, h => simp at h
    | ⟨_ :: _ :: _⟩, h => simp at h
  have hv0 := hra 0 v _ rfl rfl
  have hv := hv0.v
  have hv1 : (enc x).oneCell' = true := by rw [← hv]; exact hv0.d_inv.one
  subst hv
  -- the heap
  have hc1 : ∀ b cs t fz, hat K h0 (hp w) b = some (.cells cs t fz) → hp w b = some (.cells cs t fz) := fun b cs t fz h => by
    unfold hat at h
    split at h
    · rename_i hk; exact ((hK b hk).2 cs t fz).1 h
    · exact h
  have hc2 : ∀ b cs t fz, hp w b = some (.cells cs t fz) → hat K h0 (hp w) b = some (.cells cs t fz) := fun b cs t fz h => by
    unfold hat
    split
    · rename_i hk; exact ((hK b hk).2 cs t fz).2 h
    · exact h
  have hob : ∀ r o, lkH r H0 = some o → ∃ lo, ρr r = some lo ∧ RO (hp w) Imr ρr lo o ∧ ∀ b ∈ lo.fp, ¬ Imr b ∧ b ∈ lc.more := fun r o hr => by
    obtain ⟨lo, q1, q2, q3⟩ := g.obj r o hr
    refine ⟨lo, q1, q2.cell' hc1 hc2 fun b hb => ?_, q3⟩
    unfold hat
    rw [if_neg fun hk => (q3 b hb).1 (g.k b hk)]
  have hsize : ∀ b, b ∈ lc.more → b < w.heap.size := fun b hb => (hown b (hmfp b hb)).1
  have hImr : ∀ b, Imr b → b < w.heap.size := fun b hb => (g.im b hb).elim (fun h => hIm b (hK b h).1) (hsize b)
  let ca : Cx := { w0 := w, fp := fun b => ∃ r o lo, lkH r H0 = some o ∧ ρr r = some lo ∧ b ∈ lo.fp, Im0 := Imr, nt, anc := ids, ρ0 := ρr, defs := [], rnd := some l, marks := false }
  have hfa : ∀ b, ca.fp b → b ∈ lc.more ∧ ¬ Imr b := fun b ⟨r, o, lo, q1, q2, q3⟩ => by
    obtain ⟨lo', q4, _, q5⟩ := hob r o q1
    rw [q2] at q4; injection q4 with q4; subst q4
    exact ⟨(q5 b q3).2, (q5 b q3).1⟩
  have oka : ca.Ok X.E := ⟨fun b hb => ⟨hImr b hb, fun h => (hfa b h).2 hb⟩, fun b hb => g.k b (hKg b hb), hG, fun h => absurd h htop⟩
  let ar : Act := { tmps := a.tmps.setIfInBounds p (enc x), defers := [] }
  have Sa : Sim ca Imr ρr (St.F { f := (p, .d (.v (enc x))) :: f0, h := H0 }) (St.H { f := (p, .d (.v (enc x))) :: f0, h := H0 }) ar w := by
    refine { defs := .none, nt := by simpa [ar] using hnt, fr := fun t ht => ?_, obj := fun r o hr => ?_, dis := g.dis, imn := fun b hb => ⟨hImr b hb, .inl hb⟩, im0 := fun b hb => hb, os := rfl, tape := rfl, output := rfl, size := Nat.le_refl _, kept := fun _ _ _ => rfl, anc := fun r _ l' hl' => ⟨l', hl', .inl rfl⟩ }
    · have hg := getD_set a p t (enc x) (by rw [hnt]; exact hp1)
      have : ar.tmps.getD t undef = (a.put (some p) (enc x)).tmps.getD t undef := rfl
      rw [this, hg]
      simp only [St.F]
      by_cases h : t = p
      · subst h; rw [if_pos rfl]
        have : lk t ((t, AV.d (.v (enc x))) :: f0) = .d (.v (enc x)) := by simp [lk]
        rw [this]; exact .d _ _ (.v _ hv1)
      · rw [if_neg h]
        have h9 : lk t ((p, AV.d (.v (enc x))) :: f0) = upd (fun t => lk t f0) p (.d (.v (enc x))) t := congrFun (lk_cons p (.d (.v (enc x))) f0) t
        rw [h9, upd_ne _ _ h]
        have q1 := hfr t ht
        have q2 : RA (hat K h0 (hp w)) Imr ρr (a.tmps.getD t undef) (lk t f0) := q1.mono g.k (fun b hb => by unfold hat; rw [if_pos hb]) fun r hr l' hl' => g.anc r (hf0 t r hr) l' hl'
        exact q2.cell' hc1
    · obtain ⟨lo, q1, q2, q3⟩ := hob r o hr
      exact ⟨lo, q1, q2, fun b hb => ⟨hsize b (q3 b hb).2, (q3 b hb).1, .inr ⟨r, o, lo, hr, q1, hb⟩⟩⟩
  refine ⟨fn, ar.tmps, assign, body, ?_, ?_⟩
  · have := run_yield (P := X.E.P) (w := w) (l := l) (r := recOf fn a.tmps p assign body D .ready none) (args := #[enc x]) hrec rfl
    rw [this]; simp [ar]
  refine roundIn_of_wpIn (F := Fence.wide) trivial ?_
  refine wpIn_mono (hround ca oka rfl rfl Imr ρr ar w Sa) fun e a1 w1 ⟨hne, Im1, ρ1, s1, S1, hQ⟩ => ?_
  cases e with
  | normal =>
    have hl1 : hp w1 l = some (.loop (recOf fn a.tmps p assign body D .ready none)) := (S1.kept l hlw fun h => hnl (hfa l h).1).trans hrec
    have hI1 : ¬ Im1 l := fun h => by
      rcases (S1.imn l h).2 with q | q | q
      · exact hIl q
      · have q : w.heap.size ≤ l := q
        omega
      · exact hnl (hfa l q).1
    have hf1 : ∀ r o lo, s1.H r = some o → ρ1 r = some lo → l ∉ lo.fp := fun r o lo q1 q2 q3 => by
      obtain ⟨lo', q4, _, q5⟩ := S1.obj r o q1
      rw [q2] at q4; injection q4 with q4; subst q4
      rcases (q5 l q3).2.2 with q | q
      · have q : w.heap.size ≤ l := q
        omega
      · exact hnl (hfa l q).1
    refine ⟨_, run_beginRound hl1 rfl, ?_⟩
    generalize hw2 : w1.putObj l (.loop { recOf fn a.tmps p assign body D .ready none with state := .busy }) = w2
    let cb : Cx := { w0 := w2, fp := fun b => ∃ r o lo, s1.H r = some o ∧ ρ1 r = some lo ∧ b ∈ lo.fp, Im0 := Im1, nt, anc := ids, ρ0 := ρ1, defs := a1.defers, rnd := some l, marks := false }
    have S2 : Sim cb Im1 ρ1 s1.F s1.H a1 w2 := by
      rw [← hw2]
      exact S1.other (c' := cb) (by rw [hl1]; simp) (by simp) hI1 hf1 hw2.symm (fun b => Iff.rfl) rfl rfl rfl rfl
    have hs2 : w2.heap.size = w1.heap.size := by rw [← hw2, World.putObj_size]
    have h21 : ∀ b, b ≠ l → hp w2 b = hp w1 b := fun b h => by rw [← hw2]; exact putObj_ne h
    have hl2 : hp w2 l = some (.loop { recOf fn a.tmps p assign body D .ready none with state := .busy }) := by
      rw [← hw2]; exact World.putObj_heap_same (Array.getElem?_eq_some_iff.1 hl1).1
    have hfb : ∀ b, cb.fp b → (b ∈ lc.more ∨ w.heap.size ≤ b) ∧ ¬ Im1 b ∧ b < w1.heap.size := fun b ⟨r, o, lo, q1, q2, q3⟩ => by
      obtain ⟨lo', q4, _, q5⟩ := S1.obj r o q1
      rw [q2] at q4; injection q4 with q4; subst q4
      exact ⟨(q5 b q3).2.2.elim .inr fun h => .inl (hfa b h).1, (q5 b q3).2.1, (q5 b q3).1⟩
    have okb : cb.Ok X.E := ⟨fun b hb => ⟨by rw [hs2]; exact (S1.imn b hb).1, fun h => (hfb b h).2.1 hb⟩, fun b hb => S1.im0 b (g.k b (hKg b hb)),
      X.E.Gst w1 w2 (by rw [← hw2]; rfl) (fun b hb => h21 b fun e => hKl (e ▸ hKg b hb)) (S1.G oka), fun h => absurd h htop⟩
    refine wpIn_mono (hQ cb okb rfl rfl Im1 ρ1 a1 w2 S2) fun e2 a3 w3 ⟨hne2, Im3, ρ3, s3, S3, hQ3⟩ => ?_
    have hl3 : hp w3 l = some (.loop { recOf fn a.tmps p assign body D .ready none with state := .busy }) := (S3.kept l (by rw [hs2]; exact (Array.getElem?_eq_some_iff.1 hl1).1) fun h => by
      rcases (hfb l h).1 with q | q
      · exact hnl q
      · omega).trans hl2
    have hs : w.heap.size ≤ w1.heap.size := S1.size
    have hs3 : w1.heap.size ≤ w3.heap.size := by rw [← hs2]; exact S3.size
    have hnew : ∀ b, cb.fp b ∨ w2.heap.size ≤ b → b ∈ lc.more ∨ w.heap.size ≤ b := fun b h => h.elim (fun h => (hfb b h).1) fun h => .inr (by omega)
    have hIm3 : ∀ b, Im3 b → K b ∨ b ∈ lc.more ∨ w.heap.size ≤ b := fun b hb => by
      rcases (S3.imn b hb).2 with q | q | q
      · rcases (S1.imn b q).2 with q | q | q
        · exact (g.im b q).imp id .inl
        · exact .inr (.inr q)
        · exact .inr (.inl (hfa b q).1)
      · exact .inr (hnew b (.inr q))
      · exact .inr (hnew b (.inl q))
    -- what a round leaves
    have fin : ∀ (rc : Loop) (hx : HL) (S' : Loop → HL → Prop), S' rc hx → (∀ r o, lkH r hx = some o → lkH r s3.h = some o) → After w Im ρ [(9009, some (.gst K h0 (Runs l K h0 ρ0 ids fun rc h => rc = recOf fn a.tmps p assign body D .ready none ∧ h = H0)))] (w3.putObj l (.loop rc)) Im
        (upd ρ 9009 (some { lc with more := lc.more ++ List.range' w.heap.size (w3.heap.size - w.heap.size) })) [(9009, some (.gst K h0 (Runs l K h0 ρ0 ids S')))] := fun rc hx S' hS hle => by
      have hmore : ∀ b, b ∈ lc.more ∨ (w.heap.size ≤ b ∧ b < w3.heap.size) → b ∈ lc.more ++ List.range' w.heap.size (w3.heap.size - w.heap.size) := fun b h => by
        simp only [List.mem_append, List.mem_range'_1]
        rcases h with h | h
        · exact .inl h
        · exact .inr (by omega)
      have hmore2 : ∀ b, b ∈ lc.more ++ List.range' w.heap.size (w3.heap.size - w.heap.size) → b ∈ lc.more ∨ (w.heap.size ≤ b ∧ b < w3.heap.size) := fun b h => by
        simp only [List.mem_append, List.mem_range'_1] at h
        rcases h with h | h
        · exact .inl h
        · exact .inr (by omega)
      have hT : ∀ b, TIn ρ [(9009, some (.gst K h0 (Runs l K h0 ρ0 ids fun rc h => rc = recOf fn a.tmps p assign body D .ready none ∧ h = H0)))] b ↔ b ∈ lc.fp := fun b => by
        constructor
        · rintro ⟨r, o, lo, q1, q2, q3⟩
          have : r = 9009 := by
            by_cases h : r = 9009
            · exact h
            · simp only [lkH] at q1
              have : Nat.beq 9009 r = false := by
                cases hb : Nat.beq 9009 r with
                | false => rfl
                | true => exact absurd (Nat.eq_of_beq_eq_true hb).symm h
              rw [this] at q1; simp at q1
          subst this
          rw [e1] at q2; injection q2 with q2; subst q2; exact q3
        · intro h; exact ⟨9009, _, lc, rfl, e1, h⟩
      have hgb : ∀ b, b < w.heap.size → b ∉ lc.fp → hp (w3.putObj l (.loop rc)) b = hp w b := fun b hb hn => by
        have hbl : b ≠ l := fun e => hn (e ▸ hlfp)
        have hnm : b ∉ lc.more := fun h => hn (hmfp b h)
        rw [putObj_ne hbl]
        refine (S3.kept b (by rw [hs2]; omega) fun h => ?_).trans ((h21 b hbl).trans (S1.kept b hb fun h => hnm (hfa b h).1))
        rcases (hfb b h).1 with q | q
        · exact hnm q
        · omega
      have hKn : ∀ b, K b → b ∉ lc.fp := fun b hk h => (hown b h).2.1 (hK b hk).1
      refine ⟨⟨by rw [World.putObj_size]; omega, ?_, ?_, ?_, fun b hb hn => hgb b hb fun h => hn ((hT b).2 h)⟩, fun b hb => hb, fun b hb => ⟨by rw [World.putObj_size]; have := hIm b hb; omega, .inl hb⟩, ⟨fun r o hr => ?_, fun r r' o o' q q' h1 h2 hne => ?_⟩, fun r o hr q' hq' => ?_, fun r o hr q hq => ?_⟩
      · exact (show w3.os = w2.os from S3.os).trans ((show w2.os = w1.os from by rw [← hw2]; rfl).trans S1.os)
      · exact (show w3.tape = w2.tape from S3.tape).trans ((show w2.tape = w1.tape from by rw [← hw2]; rfl).trans S1.tape)
      · exact (show w3.output = w2.output from S3.output).trans ((show w2.output = w1.output from by rw [← hw2]; rfl).trans S1.output)
      · -- the object
        have hr9 : r = 9009 := by
          by_cases h : r = 9009
          · exact h
          · simp only [lkH] at hr
            have : Nat.beq 9009 r = false := by
              cases hb : Nat.beq 9009 r with
              | false => rfl
              | true => exact absurd (Nat.eq_of_beq_eq_true hb).symm h
            rw [this] at hr; simp at hr
        subst hr9
        have hr : some (AObj.gst K h0 (Runs l K h0 ρ0 ids S')) = some o := hr
        injection hr with hr; subst hr
        refine ⟨_, upd_same .., ⟨hbuf, ⟨b0, hb0⟩, fun b hb => ⟨(hK b hb).1, fun cs t fz => ?_⟩, fun _ _ => Runs.stab _ _, hblk, ?_, rc, hx, hS, ?_, Im3, ρ3, ?_⟩, fun b hb => ?_⟩
        · rw [hgb b (hIm b (hK b hb).1) (hKn b hb)]; exact (hK b hb).2 cs t fz
        · intro h
          rcases hmore2 l h with h | h
          · exact hnl h
          · omega
        · exact World.putObj_heap_same (by omega)
        · have hw4 : ∀ b, K b → hp w3 b = hp w b := fun b hk => by
            have := hgb b (hIm b (hK b hk).1) (hKn b hk)
            rwa [putObj_ne fun e : b = l => hKl (by rw [← e]; exact hk)] at this
          have hcf : ∀ b cs t fz, hp w3 b = some (.cells cs t fz) → hat K h0 (hp (w3.putObj l (.loop rc))) b = some (.cells cs t fz) := fun b cs t fz hc => by
            have hbl : b ≠ l := fun e => by rw [e, hl3] at hc; simp at hc
            unfold hat
            split
            · rename_i hk
              rw [hw4 b hk] at hc
              exact ((hK b hk).2 cs t fz).2 hc
            · rw [putObj_ne hbl]; exact hc
          have hcb : ∀ b cs t fz, hat K h0 (hp (w3.putObj l (.loop rc))) b = some (.cells cs t fz) → hp w3 b = some (.cells cs t fz) := fun b cs t fz hc => by
            unfold hat at hc
            split at hc
            · rename_i hk
              rw [hw4 b hk]
              exact ((hK b hk).2 cs t fz).1 hc
            · exact putObj_cells (by simp) hc
          refine ⟨fun b hb => S3.im0 b (S1.im0 b (g.k b hb)), fun b hb => (hIm3 b hb).imp id fun h => hmore b (h.imp id fun h => ⟨h, (S3.imn b hb).1⟩), fun r o hr => ?_, fun r r' o o' q q' h1 h2 => S3.dis r r' o o' q q' (hle r o h1) (hle r' o' h2), fun r hr l' hl' => ?_⟩
          · obtain ⟨lo, q1, q2, q3⟩ := S3.obj r o (hle r o hr)
            have q4 : ∀ b ∈ lo.fp, b ∈ lc.more ∨ (w.heap.size ≤ b ∧ b < w3.heap.size) := fun b hb => (hnew b ((q3 b hb).2.2.symm)).imp id fun h => ⟨h, (q3 b hb).1⟩
            have q5 : ∀ b ∈ lo.fp, b ≠ l := fun b hb e => by
              subst e
              rcases q4 b hb with h | h
              · exact hnl h
              · omega
            refine ⟨lo, q1, q2.cell' hcf hcb fun b hb => ?_, fun b hb => ⟨(q3 b hb).2.1, hmore b (q4 b hb)⟩⟩
            unfold hat
            rw [if_neg fun hk => (q3 b hb).2.1 (S3.im0 b (S1.im0 b (g.k b hk))), putObj_ne (q5 b hb)]
          · obtain ⟨l1, q1, q2⟩ := S3.anc r hr l' hl'
            obtain ⟨l2, q3, q4⟩ := S1.anc r hr l1 q1
            obtain ⟨l3, q5, q6⟩ := g.anc r hr l2 q3
            exact ⟨l3, q5, (q6.trans q4).trans q2⟩
        · have : b ∈ lc.fp ∨ (w.heap.size ≤ b ∧ b < w3.heap.size) := by
            have hb : b = l ∨ b ∈ lc.more ++ List.range' w.heap.size (w3.heap.size - w.heap.size) := by simpa [Loc.fp, hblk] using hb
            rcases hb with rfl | hb
            · exact .inl hlfp
            · exact (hmore2 b hb).imp (hmfp b) id
          rw [World.putObj_size]
          rcases this with h | h
          · exact ⟨by have := (hown b h).1; omega, (hown b h).2.1, .inr ((hT b).2 h)⟩
          · exact ⟨h.2, fun hi => by have := hIm b hi; omega, .inl h.1⟩
      · -- but one object
        have one : ∀ r o, lkH r [(9009, some (AObj.gst K h0 (Runs l K h0 ρ0 ids S')))] = some o → r = 9009 := fun r o hr => by
          by_cases h : r = 9009
          · exact h
          · simp only [lkH] at hr
            have : Nat.beq 9009 r = false := by
              cases hb : Nat.beq 9009 r with
              | false => rfl
              | true => exact absurd (Nat.eq_of_beq_eq_true hb).symm h
            rw [this] at hr; simp at hr
        exact absurd ((one r o h1).trans (one r' o' h2).symm) hne
      · have hr9 : r = 9009 := by
          by_cases h : r = 9009
          · exact h
          · simp only [lkH] at hr
            have : Nat.beq 9009 r = false := by
              cases hb : Nat.beq 9009 r with
              | false => rfl
              | true => exact absurd (Nat.eq_of_beq_eq_true hb).symm h
            rw [this] at hr; simp at hr
        subst hr9
        rw [upd_same] at hq'; injection hq' with hq'; subst hq'
        exact ⟨lc, e1, .inr (.inr ⟨hbuf, _, rfl⟩)⟩
      · by_cases h : Nat.beq 9009 r = true
        · simp only [lkH, h] at hr; injection hr with hr; subst hr; simp [AObj.ment] at hq
        · simp only [lkH, Bool.eq_false_iff.2 h] at hr; simp at hr
    cases e2 with
    | normal =>
      exact ⟨_, _, run_endRound none hl3, .inl rfl |> fun h => ⟨_, _, Im, _, h, RA.intv _ rfl, closed_nil fun _ => rfl, fin _ H' _ ⟨rfl, rfl⟩ fun r o h => LeH.at hQ3 r o h⟩⟩
    | ret =>
      exact ⟨_, _, run_endRound (some .ret) hl3, .inr rfl |> fun h => ⟨_, _, Im, _, h, RA.intv _ rfl, closed_nil fun _ => rfl, fin _ s3.h _ ⟨.ret, rfl, hQ3⟩ (fun _ _ h => h)⟩⟩
    | exit id =>
      exact ⟨_, _, run_endRound (some (.exit id)) hl3, .inr rfl |> fun h => ⟨_, _, Im, _, h, RA.intv _ rfl, closed_nil fun _ => rfl, fin _ s3.h _ ⟨.exit id, rfl, hQ3⟩ (fun _ _ h => h)⟩⟩
    | goto t => exact hQ3.elim
    | panic ch => exact hQ3.elim
    | outgrown => exact absurd rfl hne2
  | outgrown => exact absurd rfl hne
  | exit id => exact hQ.elim
  | goto t => exact hQ.elim
  | ret => exact hQ.elim
  | panic ch => exact hQ.elim

set_option maxHeartbeats 2000000 in
/-- A loop over a function. -/
theorem AWp.rangeFunc {α : Type} {enc : α → Value} {tg p : Nat} {assign body : Code} {Q : APost} {s : St} {gf : FuncId} {caps : List AV} (hin : HL) (xs : List α) (inv : List α → HL) (ids : List Nat) (f0 : List (Nat × AV))
    (hT : TOP ∈ k.anc) (htg : tg < k.nt) (hp1 : p < k.nt) (hg : lk tg s.f = .clo (.func gf) [] caps) (hit : IterC X.E gf caps hin enc xs) (hu : unmB k.anc 9009 s = true)
    (hhin : ∀ r o, lkH r hin = some o → lkH r s.h = some o) (hinv : ∀ r o, lkH r (inv []) = some o → lkH r s.h = some o ∧ lkH r hin = none) (hf0 : ∀ t, lk t f0 = .junk ∨ lk t f0 = lk t s.f) (hcl : ∀ t r, (lk t f0).ment r = true → r ∈ ids)
    (hids : ∀ r ∈ k.anc, r = TOP ∨ r ∈ ids) (htop : TOP ∉ ids) (hinvT : ∀ pre, lkH TOP (inv pre) = none)
    (hround : ∀ pre x post, xs = pre ++ x :: post → AWp X.E { nt := k.nt, anc := ids } assign (thenP (fun s1 => AWp X.E { nt := k.nt, anc := ids } body (roundQ f0 (inv (pre ++ [x])) Q) s1) (fun _ _ => False)) { f := (p, .d (.v (enc x))) :: f0, h := inv pre })
    (hdone : Q .normal { f := f0, h := inv xs }) : AWp X.E k (.rangeFunc (.tmp tg) #[p] assign body) Q s := fun c ok hn ha Im ρ a w S => by
  obtain ⟨hrnd, hmk⟩ := ok.top (ha ▸ hT)
  have hu9 := unmB_spec (c := c) (by rw [ha]; exact hu)
  refine wpIn_rangeFunc ?_
  intro fn _
  have hro : c.fence.round = none := hrnd
  rw [hro]
  -- what is called
  have hra := S.fr tg (by rw [hn]; exact htg)
  simp only [St.F] at hra
  rw [hg] at hra
  have hm9 : ∀ x ∈ caps, x.ment 9009 = false := fun x hx => by
    have h9 := hu9.fr tg
    simp only [St.F] at h9
    rw [hg] at h9
    cases hb : x.ment 9009 with
    | false => rfl
    | true =>
      obtain ⟨i, hi⟩ := List.getElem?_of_mem hx
      simp only [AV.ment, Bool.or_eq_false_iff] at h9
      rw [AV.mentL_of hi hb] at h9
      exact absurd h9.2 (by simp)
  have hev : a.eval (.tmp tg) = a.tmps.getD tg undef := rfl
  generalize hv : a.tmps.getD tg undef = v at hra
  cases hra with
  | clo _ fs cs _ _ hfs hcs _ hrc =>
  have efs : fs = #[] := Array.eq_empty_of_size_eq_zero (by simpa using hfs)
  subst efs
  -- the world at the call
  generalize hl : w.heap.size + 1 = l
  generalize hrecd : (Loop.mk .ready none fn a.tmps #[p] assign body w.heap.size) = rec0
  generalize hW1 : (w.alloc (.deferred (some []))).alloc (.loop rec0) = W1
  have hsz1 : W1.heap.size = w.heap.size + 2 := by rw [← hW1]; simp
  have hold : ∀ b, b < w.heap.size → hp W1 b = hp w b := fun b hb => by
    rw [← hW1]
    exact (heap_alloc_old _ _ b (by simp; omega)).trans (heap_alloc_old w _ b hb)
  have hD1 : hp W1 w.heap.size = some (.deferred (some [])) := by
    rw [← hW1]
    exact (heap_alloc_old _ _ _ (by simp)).trans (World.alloc_heap_new w _)
  have hl1 : hp W1 l = some (.loop rec0) := by
    rw [← hW1, ← hl]
    have := World.alloc_heap_new (w.alloc (.deferred (some []))) (.loop rec0)
    rwa [World.size_alloc] at this
  -- the loop's objects
  let more0 : List Nat := ((inv []).map (·.1)).flatMap fun r => if (lkH r (inv [])).isSome then ((ρ r).map Loc.fp).getD [] else []
  have hmore0 : ∀ b, b ∈ more0 ↔ ∃ r o lo, lkH r (inv []) = some o ∧ ρ r = some lo ∧ b ∈ lo.fp := fun b => by
    simp only [more0, List.mem_flatMap, List.mem_map]
    constructor
    · rintro ⟨r, ⟨q, hq, hr⟩, hb⟩
      split at hb
      · rename_i hs
        obtain ⟨o, ho⟩ := Option.isSome_iff_exists.1 hs
        cases hρ : ρ r with
        | none => rw [hρ] at hb; simp at hb
        | some lo => rw [hρ] at hb; exact ⟨r, o, lo, ho, hρ, by simpa using hb⟩
      · simp at hb
    · rintro ⟨r, o, lo, h1, h2, h3⟩
      obtain ⟨q, hq, hr⟩ := lkH_mem h1
      refine ⟨r, ⟨q, hq, hr⟩, ?_⟩
      rw [if_pos (by rw [h1]; rfl), h2]; simpa using h3
  have hm0 : ∀ b, b ∈ more0 → b < w.heap.size ∧ ¬ Im b ∧ (c.w0.heap.size ≤ b ∨ c.fp b) := fun b hb => by
    obtain ⟨r, o, lo, h1, h2, h3⟩ := (hmore0 b).1 hb
    obtain ⟨lo', q1, _, q3⟩ := S.obj r o (hinv r o h1).1
    rw [h2] at q1; injection q1 with q1; subst q1
    exact q3 b h3
  let lc0 : Loc := { blk := some l, more := more0 }
  let ρ1 : Nat → Option Loc := upd ρ 9009 (some lc0)
  have hlfp : ∀ b, b ∈ lc0.fp ↔ b = l ∨ b ∈ more0 := fun b => by simp [Loc.fp, lc0]
  let R : List α → Loc → (Nat → Option Obj) → Prop := fun pre => Runs l Im (hp W1) ρ ids fun rc h => rc = recOf fn a.tmps p assign body w.heap.size .ready none ∧ h = inv pre
  let Rx : Loc → (Nat → Option Obj) → Prop := Runs l Im (hp W1) ρ ids fun rc h => ∃ j, rc = recOf fn a.tmps p assign body w.heap.size .done (some j) ∧ Jumps f0 Q j h
  have hImw : ∀ b, Im b → b < w.heap.size := fun b hb => (S.imn b hb).1
  have hIW : ∀ b, Im b → hp W1 b = hp w b := fun b hb => hold b (hImw b hb)
  have hnt : a.tmps.size = k.nt := by rw [S.nt, hn]
  have hfr : ∀ t, t < k.nt → RA (hp W1) Im ρ (a.tmps.getD t undef) (lk t f0) := fun t ht => by
    have h1 := S.fr t (by rw [hn]; exact ht)
    simp only [St.F] at h1
    rcases hf0 t with h | h
    · rw [h]; exact .junk _
    · rw [h]; exact h1.mono (fun _ h => h) hIW fun r _ l' hl' => ⟨l', hl', .inl rfl⟩
  have hKg : ∀ b, b < X.E.ng → Im b := fun b hb => S.im0 b (ok.gl b hb)
  have hctr := hit l Im (hp W1) R Rx fun pre x post hx => round_ok (H' := inv (pre ++ [x])) hKg hfr hcl hnt hp1 htop (hround pre x post hx)
  -- the objects handed in
  have hne9 : ∀ r o, lkH r hin = some o → r ≠ 9009 := fun r o h e => by
    subst e
    have := hhin _ o h
    have h9 := hu9.none
    simp only [St.H] at h9
    rw [h9] at this; exact absurd this (by simp)
  have hlk9 : ∀ r o, lkH r ((9009, some (AObj.gst Im (hp W1) (R []))) :: hin) = some o → (r = 9009 ∧ o = .gst Im (hp W1) (R [])) ∨ (r ≠ 9009 ∧ lkH r hin = some o) := fun r o h => by
    have h9 : lkH r ((9009, some (AObj.gst Im (hp W1) (R []))) :: hin) = upd (fun r => lkH r hin) 9009 (some (AObj.gst Im (hp W1) (R []))) r := congrFun (lkH_cons 9009 (some (AObj.gst Im (hp W1) (R []))) hin) r
    rw [h9] at h
    by_cases e : r = 9009
    · subst e; rw [upd_same] at h; injection h with h; exact .inl ⟨rfl, h.symm⟩
    · rw [upd_ne _ _ e] at h; exact .inr ⟨e, h⟩
  have hTin : ∀ b, TIn ρ1 ((9009, some (AObj.gst Im (hp W1) (R []))) :: hin) b → b = l ∨ (b < w.heap.size ∧ ¬ Im b ∧ (c.w0.heap.size ≤ b ∨ c.fp b)) := fun b ⟨r, o, lo, h1, h2, h3⟩ => by
    rcases hlk9 r o h1 with ⟨rfl, rfl⟩ | ⟨e, h1⟩
    · have : some lc0 = some lo := (upd_same ρ 9009 (some lc0)).symm.trans h2
      injection this with this; subst this
      exact ((hlfp b).1 h3).imp id (hm0 b)
    · have h2 : ρ r = some lo := (upd_ne ρ (some lc0) e).symm.trans h2
      obtain ⟨lo', q1, _, q3⟩ := S.obj r o (hhin r o h1)
      rw [h2] at q1; injection q1 with q1; subst q1
      exact .inr (q3 b h3)
  have hhat : hat Im (hp W1) (hp W1) = hp W1 := by funext b; unfold hat; split <;> rfl
  have hroW : ∀ r o lo, s.H r = some o → ρ r = some lo → RO (hp w) Im ρ lo o → (∀ b ∈ lo.fp, b < w.heap.size) → RO (hp W1) Im ρ1 lo o := fun r o lo h1 h2 h3 h4 => by
    refine h3.mono (fun _ h => h) hIW (fun b hb => hold b (h4 b hb)) fun q hq l' hl' => ?_
    have e : q ≠ 9009 := fun e => by subst e; rw [hu9.obj r o h1] at hq; exact absurd hq (by simp)
    exact ⟨l', (upd_ne ρ (some lc0) e).symm.trans hl', .inl rfl⟩
  have hrel : HRel W1 Im ρ1 ((9009, some (AObj.gst Im (hp W1) (R []))) :: hin) (fun _ => True) := by
    refine ⟨fun r o h => ?_, fun r r' o o' lo lo' h1 h2 hne e1 e2 b hb hb' => ?_⟩
    · rcases hlk9 r o h with ⟨rfl, rfl⟩ | ⟨e, h⟩
      · refine ⟨lc0, upd_same .., ⟨rfl, ⟨l, rfl⟩, fun b hb => ⟨hb, fun _ _ _ => Iff.rfl⟩, fun _ _ => Runs.stab _ _, rfl, ?_, _, _, ⟨rfl, rfl⟩, ?_, Im, ρ, ?_⟩, fun b hb => ?_⟩
        · intro h; have := (hm0 l h).1; omega
        · rw [hl1, ← hrecd]
        · rw [hhat]
          refine ⟨fun _ h => h, fun _ h => .inl h, fun r o hr => ?_, fun r r' o o' lo lo' h1 h2 => S.dis r r' o o' lo lo' (hinv r o h1).1 (hinv r' o' h2).1, fun r _ l' hl' => ⟨l', hl', .inl rfl⟩⟩
          obtain ⟨lo, q1, q2, q3⟩ := S.obj r o (hinv r o hr).1
          exact ⟨lo, q1, q2.mono (fun _ h => h) hIW (fun b hb => hold b (q3 b hb).1) (fun q _ l' hl' => ⟨l', hl', .inl rfl⟩), fun b hb => ⟨(q3 b hb).2.1, (hmore0 b).2 ⟨r, o, lo, hr, q1, hb⟩⟩⟩
        · rcases (hlfp b).1 hb with rfl | h
          · exact ⟨by omega, fun h => by have := hImw _ h; omega, trivial⟩
          · exact ⟨by have := (hm0 b h).1; omega, (hm0 b h).2.1, trivial⟩
      · obtain ⟨lo, q1, q2, q3⟩ := S.obj r o (hhin r o h)
        exact ⟨lo, (upd_ne ρ (some lc0) e).trans q1, hroW r o lo (hhin r o h) q1 q2 fun b hb => (q3 b hb).1, fun b hb => ⟨by have := (q3 b hb).1; omega, (q3 b hb).2.1, trivial⟩⟩
    · have key : ∀ r o lo b, r ≠ 9009 → lkH r hin = some o → ρ1 r = some lo → b ∈ lo.fp → b ∉ lc0.fp := fun r o lo b e h1 h2 h3 h4 => by
        have h2 : ρ r = some lo := (upd_ne ρ (some lc0) e).symm.trans h2
        obtain ⟨lo', q1, _, q3⟩ := S.obj r o (hhin r o h1)
        rw [h2] at q1; injection q1 with q1; subst q1
        rcases (hlfp b).1 h4 with rfl | h4
        · have := (q3 _ h3).1; omega
        · obtain ⟨r2, o2, lo2, g1, g2, g3⟩ := (hmore0 b).1 h4
          have hne2 : r ≠ r2 := fun e => by subst e; rw [(hinv _ _ g1).2] at h1; exact absurd h1 (by simp)
          exact S.dis r r2 o o2 lo lo2 (hhin r o h1) (hinv r2 o2 g1).1 hne2 h2 g2 b h3 g3
      rcases hlk9 r o h1 with ⟨rfl, rfl⟩ | ⟨e, h1⟩
      · have : some lc0 = some lo := (upd_same ρ 9009 (some lc0)).symm.trans e1
        injection this with this; subst this
        rcases hlk9 r' o' h2 with ⟨rfl, _⟩ | ⟨e', h2⟩
        · exact hne rfl
        · exact key r' o' lo' b e' h2 e2 hb' hb
      · rcases hlk9 r' o' h2 with ⟨rfl, _⟩ | ⟨e', h2⟩
        · have : some lc0 = some lo' := (upd_same ρ 9009 (some lc0)).symm.trans e2
          injection this with this; subst this
          exact key r o lo b e h1 e1 hb hb'
        · exact S.dis r r' o o' lo lo' (hhin r o h1) (hhin r' o' h2) hne ((upd_ne ρ (some lc0) e).symm.trans e1) ((upd_ne ρ (some lc0) e').symm.trans e2) b hb hb'
  have hGW : X.E.G W1 := X.E.Gst w W1 (by rw [← hW1]; rfl) (fun b hb => hIW b (hKg b hb)) (S.G ok)
  have hcalls := hctr.2 W1 Im ρ1 (#[.func (.yield l) #[] #[]] ++ cs) hGW (fun b hb => by have := hImw b hb; omega) hKg (by simp [hcs]; omega) (fun i v x h1 h2 => by
    cases i with
    | zero =>
      rw [Array.getElem?_append_left (by simp)] at h1
      have e1 : v = .func (.yield l) #[] #[] := by simpa using h1.symm
      have e2 : x = .clo (.yield l) [] [] := by simpa using h2.symm
      subst e1; subst e2; exact .clo _ _ _ _ _ rfl rfl (by simp) (by simp)
    | succ i =>
      rw [Array.getElem?_append_right (by simp)] at h1
      have h2 : caps[i]? = some x := by simpa using h2
      have hx := hrc i v x (by simpa using h1) h2
      exact hx.mono (fun _ h => h) hIW fun q hq l' hl' => ⟨l', (upd_ne ρ (some lc0) (fun e => by subst e; rw [hm9 x (List.mem_of_getElem? h2)] at hq; exact absurd hq (by simp))).symm.trans hl', .inl rfl⟩) hrel
  refine ⟨l, [markD w.heap.size], W1, { target := .fn (.func gf) cs, args := #[.func (.yield l) #[] #[]] }, W1, gf, #[.func (.yield l) #[] #[]] ++ cs, W1, ?_, ?_, fun _ _ => trivial, ?_, fun h => by simp [Fence.wide] at h, ?_⟩
  · rw [← hl, ← hW1, ← hrecd]; exact run_enterLoop_outer _ _ _ _ _
  · simp [resolve, Deferred.ofValue, hv, Act.eval]
  · simp [invoke, run_callFunc hctr.1]
  refine callsIn_fence c ?_
  refine hcalls.mono fun e w3 he => ?_
  -- behind the loop
  cases e with
  | panicked ch => obtain ⟨ho, Im', ρ', ⟨res, hpost⟩, _⟩ := he; exact absurd hpost (by simp)
  | outgrown => exact he.elim
  | returned v3 =>
    obtain ⟨res, ho, Im', ρ', ⟨res', hpost⟩, _, _, haft⟩ := he
    obtain ⟨S', hho, hS'⟩ : ∃ S' : Loop → HL → Prop, ho = [(9009, some (.gst Im (hp W1) (Runs l Im (hp W1) ρ ids S')))] ∧ ∀ rc h, S' rc h → (rc = recOf fn a.tmps p assign body w.heap.size .ready none ∧ h = inv xs) ∨ ∃ j, rc = recOf fn a.tmps p assign body w.heap.size .done (some j) ∧ Jumps f0 Q j h := by
      rcases hpost with hpost | hpost
      · injection hpost with _ h; exact ⟨_, h, fun rc h h' => .inl h'⟩
      · injection hpost with _ h; exact ⟨_, h, fun rc h h' => .inr h'⟩
    subst hho
    obtain ⟨lc3, _, ⟨_, _, hK3, _, hblk3, hnl3, rc, H3, hSr, hl3, Im2, ρ2, g⟩, hown3⟩ := haft.rel.obj 9009 _ rfl
    have hmfp : ∀ b, b ∈ lc3.more → b ∈ lc3.fp := fun b hb => by simp [Loc.fp, hb]
    have hKn : ∀ b, Im b → ¬ TIn ρ1 ((9009, some (AObj.gst Im (hp W1) (R []))) :: hin) b := fun b hb h => by
      rcases hTin b h with rfl | h
      · have := hImw _ hb; omega
      · exact h.2.1 hb
    have hI3 : ∀ b, Im b → hp w3 b = hp w b := fun b hb => (haft.grows.block b (by have := hImw b hb; omega) (hKn b hb)).trans (hIW b hb)
    have hD3 : hp w3 w.heap.size = some (.deferred (some [])) := (haft.grows.block _ (by omega) fun h => by
      rcases hTin _ h with h | h
      · omega
      · omega).trans hD1
    have hls : l < w3.heap.size := by have := haft.grows.size; omega
    have hm3 : ∀ b, b ∈ lc3.more → b < w3.heap.size ∧ b ≠ w.heap.size ∧ b ≠ l ∧ (c.w0.heap.size ≤ b ∨ c.fp b) := fun b hb => by
      obtain ⟨q1, q2, q3⟩ := hown3 b (hmfp b hb)
      have hs := S.size
      refine ⟨q1, ?_, fun e => hnl3 (e ▸ hb), ?_⟩
      · rcases q3 with q3 | q3
        · omega
        · rcases hTin b q3 with q | q
          · omega
          · omega
      · rcases q3 with q3 | q3
        · exact .inl (by omega)
        · rcases hTin b q3 with q | q
          · exact .inl (by omega)
          · exact q.2.2
    have hbusy : rc.state ≠ .busy := by
      rcases hS' rc H3 hSr with ⟨h, _⟩ | ⟨j, h, _⟩ <;> (rw [h]; simp)
    have hend := run_endLoop (P := X.E.P) (w := w3) hl3 hbusy
    generalize hw5 : w3.putObj l (.loop { rc with state := .exhausted }) = w5 at hend
    have h53 : ∀ b, b ≠ l → hp w5 b = hp w3 b := fun b h => by rw [← hw5]; exact putObj_ne h
    have hs5 : w5.heap.size = w3.heap.size := by rw [← hw5, World.putObj_size]
    have hhat3 : hat Im (hp W1) (hp w3) = hp w3 := by
      funext b; unfold hat
      split
      · rename_i hb; rw [hI3 b hb, hIW b hb]
      · rfl
    have hTop3 : lkH TOP H3 = none := by
      rcases hS' rc H3 hSr with ⟨_, h⟩ | ⟨j, _, h⟩
      · rw [h]; exact hinvT xs
      · cases j <;> first | exact h.1 | exact h.elim
    let ImF : Nat → Prop := fun b => Im2 b ∨ b = w.heap.size
    let ρF : Nat → Option Loc := fun r => if r = TOP then none else ρ2 r
    have hρF : ∀ r, r ≠ TOP → ρF r = ρ2 r := fun r h => if_neg h
    have hne3 : ∀ r o, lkH r H3 = some o → r ≠ TOP := fun r o h e => by subst e; rw [hTop3] at h; exact absurd h (by simp)
    have hF2 : ∀ r l', ρF r = some l' → r ≠ TOP ∧ ρ2 r = some l' := fun r l' h => by
      by_cases e : r = TOP
      · simp [ρF, e] at h
      · exact ⟨e, by rwa [hρF r e] at h⟩
    have hancF : ∀ r ∈ ids, ∀ l', ρF r = some l' → ∃ l, ρ r = some l ∧ LocStep l l' := fun r hr l' h => g.anc r hr l' (hF2 r l' h).2
    have hIml : ¬ Im2 l := fun h => by
      rcases g.im l h with h | h
      · have := hImw l h; omega
      · exact hnl3 h
    have S5 : Sim c ImF ρF (St.F { f := f0, h := H3 }) (St.H { f := f0, h := H3 }) { a with defers := [markD w.heap.size] ++ a.defers } w5 := by
      refine { defs := ?_, nt := S.nt, fr := fun t ht => ?_, obj := fun r o hr => ?_, dis := fun r r' o o' lo lo' h1 h2 hne e1 e2 => g.dis r r' o o' lo lo' h1 h2 hne (hF2 r lo e1).2 (hF2 r' lo' e2).2, imn := fun b hb => ?_, im0 := fun b hb => .inl (g.k b (S.im0 b hb)), os := ?_, tape := ?_, output := ?_, size := ?_, kept := fun b hb hf => ?_, anc := fun r hr l' hl' => ?_ }
      · obtain ⟨ms, d1, d2, d3, d4⟩ := S.defs
        refine ⟨w.heap.size :: ms, by simp [d1], fun _ => hmk, List.nodup_cons.2 ⟨fun h => by have := hImw _ (d4 _ h).2.1; omega, d3⟩, fun D hD => ?_⟩
        rcases List.mem_cons.1 hD with rfl | hD
        · exact ⟨S.size, .inr rfl, (h53 _ (by omega)).trans hD3⟩
        · obtain ⟨q1, q2, q3⟩ := d4 D hD
          exact ⟨q1, .inl (g.k D q2), by rw [h53 D (by have := hImw D q2; omega), hI3 D q2]; exact q3⟩
      · have h1 := hfr t (by rw [← hn]; exact ht)
        refine h1.mono (fun b hb => .inl (g.k b hb)) (fun b hb => by rw [h53 b (by have := hImw b hb; omega), hI3 b hb, hIW b hb]) fun r hr l' hl' => hancF r (hcl t r hr) l' hl'
      · obtain ⟨lo, q1, q2, q3⟩ := g.obj r o hr
        rw [hhat3] at q2
        have q4 := q2.mono (ρ' := ρF) (fun _ h => h) (fun _ _ => rfl) (fun _ _ => rfl) (fun q _ l' hl' => ⟨l', (hF2 q l' hl').2, .inl rfl⟩)
        have q5 : RO (hp w5) ImF ρF lo o := q4.mono (fun b h => .inl h) (fun b hb => h53 b fun e => hIml (e ▸ hb)) (fun b hb => h53 b (hm3 b (q3 b hb).2).2.2.1) fun q _ l' hl' => ⟨l', hl', .inl rfl⟩
        refine ⟨lo, (hρF r (hne3 r o hr)).trans q1, q5, fun b hb => ?_⟩
        obtain ⟨r1, r2, r3, r4⟩ := hm3 b (q3 b hb).2
        exact ⟨by rw [hs5]; exact r1, fun h => h.elim (q3 b hb).1 r2, r4⟩
      · have hs := S.size
        rcases hb with hb | rfl
        · rcases g.im b hb with hb | hb
          · have := S.imn b hb
            exact ⟨by rw [hs5]; omega, this.2⟩
          · obtain ⟨r1, r2, r3, r4⟩ := hm3 b hb
            exact ⟨by rw [hs5]; exact r1, .inr r4⟩
        · exact ⟨by rw [hs5]; omega, .inr (.inl hs)⟩
      · exact (show w5.os = w3.os from by rw [← hw5]; rfl).trans (haft.grows.os.trans ((show W1.os = w.os from by rw [← hW1]; rfl).trans S.os))
      · exact (show w5.tape = w3.tape from by rw [← hw5]; rfl).trans (haft.grows.tape.trans ((show W1.tape = w.tape from by rw [← hW1]; rfl).trans S.tape))
      · exact (show w5.output = w3.output from by rw [← hw5]; rfl).trans (haft.grows.output.trans ((show W1.output = w.output from by rw [← hW1]; rfl).trans S.output))
      · have := S.size; have := haft.grows.size; omega
      · have hs := S.size
        refine (h53 b (by omega)).trans ((haft.grows.block b (by omega) fun h => ?_).trans ((hold b (by omega)).trans (S.kept b hb hf)))
        rcases hTin b h with q | ⟨_, _, q | q⟩
        · omega
        · omega
        · exact hf q
      · obtain ⟨e, h2⟩ := hF2 r l' hl'
        rcases hids r (ha ▸ hr) with h | h
        · exact absurd h e
        · obtain ⟨l1, q1, q2⟩ := g.anc r h l' h2
          obtain ⟨l2, q3, q4⟩ := S.anc r hr l1 q1
          exact ⟨l2, q3, q4.trans q2⟩
    refine ⟨rc.pending, w5, hend, ?_⟩
    rcases hS' rc H3 hSr with ⟨h, hH⟩ | ⟨j, h, hH⟩
    · subst h; subst hH
      exact ⟨by simp, ImF, ρF, _, S5, hdone⟩
    · subst h
      cases j <;> first | exact hH.elim | skip
      · exact wpIn_exit ⟨by simp, ImF, ρF, _, S5, hH.2⟩
      · exact wpIn_ret ⟨by simp, ImF, ρF, _, S5, hH.2⟩

/-- A call of yield: two answers. -/
theorem YieldP.two {E : Env} {l : Nat} {args : List AV} {s : St} {K : AV → HL → Prop} {hin h1 h2 : HL} {r1 r2 : AV} (h : YCtr E l args hin fun o => o = .ret r1 h1 ∨ o = .ret r2 h2) (hle : LeH hin s.h) (e1 : h1.all (fun p => (lkH p.1 hin).isSome) = true) (e2 : h2.all (fun p => (lkH p.1 hin).isSome) = true)
    (k1 : K r1 (h1 ++ (killed hin ++ s.h))) (k2 : K r2 (h2 ++ (killed hin ++ s.h))) : YieldP E k l args s K :=
  ⟨hin, _, h, fun r o hr => LeH.at hle r o hr, fun ch ho h => by simp at h, fun res ho h => by
    have key : ∀ hh : HL, hh.all (fun p => (lkH p.1 hin).isSome) = true → ∀ r o, lkH r hh = some o → ∃ o', lkH r hin = some o' := fun hh e r o hr => by
      obtain ⟨p, q1, q2⟩ := lkH_mem hr
      have := List.all_eq_true.1 e p q1
      rw [q2] at this
      exact Option.isSome_iff_exists.1 this
    rcases h with h | h
    · injection h with a b; subst a; subst b; exact ⟨fun r o hr => .inl (key _ e1 r o hr), k1⟩
    · injection h with a b; subst a; subst b; exact ⟨fun r o hr => .inl (key _ e2 r o hr), k2⟩⟩

end Go.Ax

/- Loops over functions, met by the one function that meets code. -/
namespace Go.Ax
variable {X : Ax} {k : Kn}

/-- A contract out of a body that holds a loop over a function. -/
theorem Ctr.bodyT {f : FuncId} {fn : Func} {args : List AV} {hin : HL} {post : AOut → Prop} (code : Code) (nt : Nat) (anc : List Nat) (rs : List ResultVar) (hf : X.E.P.funcs[f]? = some fn) (hb : fn.body = some code) (hnt : fn.ntmps = nt) (hanc : hin.map (·.1) = anc) (hrs : fn.results.toList = rs) (hname : (fn.name == "runtime.NumGoroutine") = false) (hargs : Nat.ble args.length nt = true) (hres : rs.all (resIn nt) = true)
    (h : wpc X.E X.tab { nt, anc := TOP :: anc } code (retP X.tab rs post) { f := entry 0 args, h := hin }) : Ctr X.E f args hin post := by
  subst hnt; subst hanc; subst hrs
  exact Ctr.intro' [TOP] hf hb hname (Nat.le_of_ble_eq_true hargs) hres (wpc_ok h)

/-- What leads to no object but these. -/
def plain (ids : List Nat) : AV → Bool
  | .junk => true
  | .d _ => true
  | .dagg _ => true
  | .ptr r _ => ids.contains r
  | .mp r => ids.contains r
  | .msl r _ _ _ => ids.contains r
  | _ => false
theorem plain_ment {ids : List Nat} {x : AV} (h : plain ids x = true) (r : Nat) (hr : x.ment r = true) : r ∈ ids := by
  cases x <;> simp_all [plain, AV.ment]
theorem plain_lk {ids : List Nat} : ∀ {f : List (Nat × AV)}, f.all (fun p => plain ids p.2) = true → ∀ t r, (lk t f).ment r = true → r ∈ ids
  | [], _, t, r, h => by simp [lk, AV.ment] at h
  | (k, v) :: l, ha, t, r, h => by
    simp only [List.all_cons, Bool.and_eq_true] at ha
    rw [show lk t ((k, v) :: l) = upd (fun t => lk t l) k v t from congrFun (lk_cons k v l) t] at h
    unfold upd at h
    split at h
    · exact plain_ment ha.1 r h
    · exact plain_lk ha.2 t r h

/-- A loop over a function: what it hands out, one by one. -/
theorem OtherP.range {α : Type} {enc : α → Value} {tg p : Nat} {assign body : Code} {Q : APost} {s : St} {gf : FuncId} {caps : List AV} (hin : HL) (xs : List α) (inv : List α → HL) (ids : List Nat) (f0 : List (Nat × AV))
    (hT : k.anc.contains TOP = true) (htg : Nat.blt tg k.nt = true) (hp1 : Nat.blt p k.nt = true) (hg : lk tg s.f = .clo (.func gf) [] caps) (hit : IterC X.E gf caps hin enc xs) (hu : unmB k.anc 9009 s = true)
    (hhin : LeH hin s.h) (hinv : LeH (inv []) s.h) (hsep : (inv []).all (fun q => (lkH q.1 hin).isNone) = true) (hf0 : LeF f0 s.f) (hcl : f0.all (fun q => plain ids q.2) = true)
    (hids : k.anc.all (fun r => Nat.beq r TOP || ids.contains r) = true) (htop : ids.contains TOP = false) (hinvT : ∀ pre, lkH TOP (inv pre) = none)
    (hround : ∀ pre x post, xs = pre ++ x :: post → wpc X.E X.tab { nt := k.nt, anc := ids } assign (thenP (fun s1 => wpc X.E X.tab { nt := k.nt, anc := ids } body (roundQ f0 (inv (pre ++ [x])) Q) s1) (fun _ _ => False)) { f := (p, .d (.v (enc x))) :: f0, h := inv pre })
    (hdone : Q .normal { f := f0, h := inv xs }) : OtherP X.E k (.rangeFunc (.tmp tg) #[p] assign body) Q s :=
  ⟨.rangeFunc hin xs inv ids f0 (by simpa using hT) (by simpa using htg) (by simpa using hp1) hg hit hu (fun r o h => LeH.at hhin r o h)
    (fun r o h => ⟨LeH.at hinv r o h, by
      obtain ⟨q, h1, h2⟩ := lkH_mem h
      have h3 := List.all_eq_true.1 hsep q h1
      rw [h2] at h3
      simpa using h3⟩)
    (fun t => LeF.at hf0 t) (plain_lk hcl) (fun r hr => by
      have h1 := List.all_eq_true.1 hids r hr
      rcases Bool.or_eq_true_iff.1 h1 with h | h
      · exact .inl (Nat.eq_of_beq_eq_true h)
      · exact .inr (by simpa using h)) (by simpa using htop) hinvT
    (fun pre x post h => AWp.mono (wpc_ok (hround pre x post h)) fun e s hq => by
      cases e with
      | normal => exact wpc_ok hq
      | _ => exact hq.elim) hdone⟩

/-- A call that makes objects. -/
theorem CallP.makesL {E : Env} {f : FuncId} {args : List AV} {s : St} {K : AV → HL → Prop} {KP : List PanicEntry → HL → Prop} {res : AV} {ho : HL} (hu : ho.all (fun q => unmB k.anc q.1 s) = true) (h : Ctr E f args [] fun o => o = .ret res ho) (hk : K res (ho ++ s.h)) : CallP E k f args s K KP :=
  ⟨[], _, h, fun r o h => by simp [lkH] at h, fun res' ho' e => by
    injection e with e1 e2; subst e1; subst e2
    refine ⟨fun q o hq => .inr ?_, hk⟩
    obtain ⟨p, q1, q2⟩ := lkH_mem hq
    have := List.all_eq_true.1 hu p q1
    rwa [q2] at this, fun ch ho e => by simp at e⟩
end Go.Ax

/- Loops over functions with an invariant: what is told of the values that were handed out so far. -/
namespace Go.Ax
variable {X : Ax} {k : Kn}

/-- An object that there is not. -/
def badO : AObj := .ext fun _ _ => False
theorem Sim.bad {c : Cx} {Im : Nat → Prop} {ρ : Nat → Option Loc} {F : Nat → AV} {H : Nat → Option AObj} {a : Act} {w : World} (S : Sim c Im ρ F H a w) {q : Nat} (h : H q = some badO) : False := by
  obtain ⟨l, _, h1, _⟩ := S.obj q badO h
  exact h1.2.2.2
theorem AWp.bad {E : Env} {code : Code} {Q : APost} {s : St} (q : Nat) (h : lkH q s.h = some badO) : AWp E k code Q s := fun _ _ _ _ _ _ _ _ S => (S.bad h).elim
theorem AWp.unbad {E : Env} {code : Code} {Q : APost} {s : St} (q : Nat) (h : AWp E k code (fun e s => Q e s ∨ lkH q s.h = some badO) s) : AWp E k code Q s := fun c ok h1 h2 Im ρ a w S =>
  wpIn_mono (h c ok h1 h2 Im ρ a w S) fun e a w hq => by
    obtain ⟨h3, Im', ρ', s', S', h4⟩ := hq
    rcases h4 with h4 | h4
    · exact ⟨h3, Im', ρ', s', S', h4⟩
    · exact (S'.bad h4).elim

/-- What a round's body leaves, and what is known of the values so far. -/
def roundI (f0 : List (Nat × AV)) (p : Prop) (h1 : HL) (Q : APost) : APost
  | .normal, s => p ∧ LeH h1 s.h
  | .ret, s => lkH TOP s.h = none ∧ Q .ret { f := f0, h := s.h }
  | .exit id, s => lkH TOP s.h = none ∧ Q (.exit id) { f := f0, h := s.h }
  | _, _ => False

open Classical in
theorem OtherP.rangeI {α : Type} {enc : α → Value} {tg p : Nat} {assign body : Code} {Q : APost} {s : St} {gf : FuncId} {caps : List AV} (hin : HL) (xs : List α) (inv : List α → HL) (I : List α → Prop) (ids : List Nat) (f0 : List (Nat × AV))
    (hT : k.anc.contains TOP = true) (htg : Nat.blt tg k.nt = true) (hp1 : Nat.blt p k.nt = true) (hg : lk tg s.f = .clo (.func gf) [] caps) (hit : IterC X.E gf caps hin enc xs) (hu : unmB k.anc 9009 s = true)
    (hhin : LeH hin s.h) (hI : I []) (hinv : LeH (inv []) s.h) (hsep : (inv []).all (fun q => (lkH q.1 hin).isNone) = true) (hf0 : LeF f0 s.f) (hcl : f0.all (fun q => plain ids q.2) = true)
    (hids : k.anc.all (fun r => Nat.beq r TOP || ids.contains r) = true) (htop : ids.contains TOP = false) (hinvT : ∀ pre, lkH TOP (inv pre) = none)
    (hround : ∀ pre x post, xs = pre ++ x :: post → I pre → wpc X.E X.tab { nt := k.nt, anc := ids } assign (thenP (fun s1 => wpc X.E X.tab { nt := k.nt, anc := ids } body (roundI f0 (I (pre ++ [x])) (inv (pre ++ [x])) Q) s1) (fun _ _ => False)) { f := (p, .d (.v (enc x))) :: f0, h := inv pre })
    (hdone : I xs → Q .normal { f := f0, h := inv xs }) : OtherP X.E k (.rangeFunc (.tmp tg) #[p] assign body) Q s :=
  ⟨AWp.unbad 9010 <| .rangeFunc hin xs (fun pre => if I pre then inv pre else [(9010, some badO)]) ids f0 (by simpa using hT) (by simpa using htg) (by simpa using hp1) hg hit hu (fun r o h => LeH.at hhin r o h)
    (fun r o h => by
      simp only [if_pos hI] at h
      exact ⟨LeH.at hinv r o h, by
        obtain ⟨q, h1, h2⟩ := lkH_mem h
        have h3 := List.all_eq_true.1 hsep q h1
        rw [h2] at h3
        simpa using h3⟩)
    (fun t => LeF.at hf0 t) (plain_lk hcl) (fun r hr => by
      have h1 := List.all_eq_true.1 hids r hr
      rcases Bool.or_eq_true_iff.1 h1 with h | h
      · exact .inl (Nat.eq_of_beq_eq_true h)
      · exact .inr (by simpa using h)) (by simpa using htop) (fun pre => by
      split
      · exact hinvT pre
      · rfl)
    (fun pre x post h => by
      by_cases hb : I pre
      · rw [if_pos hb]
        exact AWp.mono (wpc_ok (hround pre x post h hb)) fun e s hq => by
          cases e with
          | normal =>
            refine AWp.mono (wpc_ok hq) fun e s hq => ?_
            cases e with
            | normal =>
              show LeH _ s.h
              rw [if_pos hq.1]; exact hq.2
            | ret => exact ⟨hq.1, .inl hq.2⟩
            | exit id => exact ⟨hq.1, .inl hq.2⟩
            | _ => exact hq.elim
          | _ => exact hq.elim
      · rw [if_neg hb]
        exact AWp.bad 9010 rfl)
    (by
      by_cases hb : I xs
      · rw [if_pos hb]; exact .inl (hdone hb)
      · rw [if_neg hb]; exact .inr rfl)⟩
end Go.Ax
