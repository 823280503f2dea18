/- Abstract execution, part B: what is known of a call's state, and how it changes. -/
import Derived.Test.YtjokajidcojlmaaDoorAxA
namespace Go.Ax

def upd {α : Type} (f : Nat → α) (k : Nat) (v : α) : Nat → α := fun i => if i = k then v else f i
@[simp] theorem upd_same {α : Type} (f : Nat → α) (k : Nat) (v : α) : upd f k v k = v := by simp [upd]
theorem upd_ne {α : Type} (f : Nat → α) {k i : Nat} (v : α) (h : i ≠ k) : upd f k v i = f i := by simp [upd, h]

/-- What cells a program's variable holds. -/
def GlOk (ng : Nat) (gl : List (Nat × List D)) (w : World) : Prop := ∀ p ∈ gl, p.1 < ng ∧ ∃ ms t fz, w.heap[p.1]? = some (.cells ms t fz) ∧ ∀ (j : Nat) (x : D), p.2[j]? = some x → ∃ v, ms[j]? = some v ∧ x = .v v ∧ v.oneCell' = true
structure Env where
  P : Program
  ng : Nat
  G : World → Prop
  gl : List (Nat × List D)
  glOk : ∀ w, G w → GlOk ng gl w
  Gst : ∀ w w' : World, w'.os = w.os → (∀ b, b < ng → w'.heap[b]? = w.heap[b]?) → G w → G w'
  mixed : P.follows .mixedOrders = true

/-- A call: the world at its beginning, the blocks that it may write, the blocks that are immutable, the number of slots. -/
structure Cx where
  w0 : World
  fp : Nat → Prop
  Im0 : Nat → Prop
  nt : Nat
  anc : List Nat
  ρ0 : Nat → Option Loc

abbrev hp (w : World) : Nat → Option Obj := fun b => w.heap[b]?

structure Cx.Ok (E : Env) (c : Cx) : Prop where
  im : ∀ b, c.Im0 b → b < c.w0.heap.size ∧ ¬ c.fp b
  gl : ∀ b, b < E.ng → c.Im0 b
  G : E.G c.w0

structure Sim (c : Cx) (Im : Nat → Prop) (ρ : Nat → Option Loc) (F : Nat → AV) (H : Nat → Option AObj) (a : Act) (w : World) : Prop where
  defs : a.defers = []
  nt : a.tmps.size = c.nt
  fr : ∀ t, t < c.nt → RA (hp w) Im ρ (a.tmps.getD t undef) (F t)
  obj : ∀ r o, H r = some o → ∃ l, ρ r = some l ∧ RO (hp w) Im ρ l o ∧ ∀ b ∈ l.fp, b < w.heap.size ∧ ¬ Im b ∧ (c.w0.heap.size ≤ b ∨ c.fp b)
  dis : ∀ r r' o o' l l', H r = some o → H r' = some o' → r ≠ r' → ρ r = some l → ρ r' = some l' → ∀ b ∈ l.fp, b ∉ l'.fp
  imn : ∀ b, Im b → b < w.heap.size ∧ (c.Im0 b ∨ c.w0.heap.size ≤ b ∨ c.fp b)
  im0 : ∀ b, c.Im0 b → Im b
  os : w.os = c.w0.os
  tape : w.tape = c.w0.tape
  output : w.output = c.w0.output
  size : c.w0.heap.size ≤ w.heap.size
  kept : ∀ b, b < c.w0.heap.size → ¬ c.fp b → w.heap[b]? = c.w0.heap[b]?
  anc : ∀ r ∈ c.anc, ∀ l', ρ r = some l' → ∃ l, c.ρ0 r = some l ∧ LocStep l l'

variable {c : Cx} {Im : Nat → Prop} {ρ : Nat → Option Loc} {F : Nat → AV} {H : Nat → Option AObj} {a : Act} {w : World}

/-- An id that nothing names. -/
structure Unm (c : Cx) (r : Nat) (F : Nat → AV) (H : Nat → Option AObj) : Prop where
  anc : r ∉ c.anc
  fr : ∀ t, (F t).ment r = false
  obj : ∀ q o, H q = some o → o.ment r = false
  none : H r = none

theorem getD_set (a : Act) (d t : Nat) (v : Value) (hd : d < a.tmps.size) : ((a.put (some d) v).tmps.getD t undef) = if t = d then v else a.tmps.getD t undef := by
  simp only [Act.put, Array.getD_eq_getD_getElem?, Array.getElem?_setIfInBounds]
  by_cases h : d = t
  · subst h; simp [hd]
  · simp [h, Ne.symm h]

theorem Sim.put (S : Sim c Im ρ F H a w) {d : Nat} {v : Value} {x : AV} (hd : d < c.nt) (hx : RA (hp w) Im ρ v x) : Sim c Im ρ (upd F d x) H (a.put (some d) v) w where
  defs := by simp [Act.put, S.defs]
  nt := by simp [Act.put, S.nt]
  fr := fun t ht => by
    rw [getD_set a d t v (by rw [S.nt]; exact hd)]
    by_cases h : t = d
    · subst h; simpa using hx
    · rw [if_neg h, upd_ne _ _ h]; exact S.fr t ht
  obj := S.obj
  dis := S.dis
  imn := S.imn
  im0 := S.im0
  os := S.os
  tape := S.tape
  output := S.output
  size := S.size
  kept := S.kept
  anc := S.anc

/-- A world whose memory is the same. -/
theorem Sim.world (S : Sim c Im ρ F H a w) {w' : World} (hh : w'.heap = w.heap) (ho : w'.os = w.os) (ht : w'.tape = w.tape) (hu : w'.output = w.output) : Sim c Im ρ F H a w' where
  defs := S.defs
  nt := S.nt
  fr := by rw [show hp w' = hp w from by funext b; simp only [hp, hh]]; exact S.fr
  obj := by rw [show hp w' = hp w from by funext b; simp only [hp, hh], hh]; exact S.obj
  dis := S.dis
  imn := by simpa only [hh] using S.imn
  im0 := S.im0
  os := ho.trans S.os
  tape := ht.trans S.tape
  output := hu.trans S.output
  size := by rw [hh]; exact S.size
  kept := by simpa only [hh] using S.kept
  anc := S.anc

/-- Less may be known. -/
theorem Sim.weak (S : Sim c Im ρ F H a w) {F' : Nat → AV} {H' : Nat → Option AObj} (hF : ∀ t, F' t = .junk ∨ F' t = F t) (hH : ∀ r o, H' r = some o → H r = some o) : Sim c Im ρ F' H' a w where
  defs := S.defs
  nt := S.nt
  fr := fun t ht => by rcases hF t with h | h <;> rw [h]; exact .junk _; exact S.fr t ht
  obj := fun r o h => S.obj r o (hH r o h)
  dis := fun r r' o o' l l' h h' => S.dis r r' o o' l l' (hH r o h) (hH r' o' h')
  imn := S.imn
  im0 := S.im0
  os := S.os
  tape := S.tape
  output := S.output
  size := S.size
  kept := S.kept
  anc := S.anc

/-- What grows or changes a world: old blocks but those of T are as they were. -/
structure Grows (w w' : World) (T : Nat → Prop) : Prop where
  size : w.heap.size ≤ w'.heap.size
  os : w'.os = w.os
  tape : w'.tape = w.tape
  output : w'.output = w.output
  block : ∀ b, b < w.heap.size → ¬ T b → w'.heap[b]? = w.heap[b]?

theorem Grows.refl (w : World) (T : Nat → Prop) : Grows w w T := ⟨Nat.le_refl _, rfl, rfl, rfl, fun _ _ _ => rfl⟩
theorem Grows.trans {w w1 w2 : World} {T T' : Nat → Prop} (h : Grows w w1 T) (k : Grows w1 w2 T') (hT : ∀ b, b < w.heap.size → T' b → T b) : Grows w w2 T :=
  ⟨Nat.le_trans h.size k.size, k.os.trans h.os, k.tape.trans h.tape, k.output.trans h.output, fun b hb ht => (k.block b (Nat.lt_of_lt_of_le hb h.size) fun h' => ht (hT b hb h')).trans (h.block b hb ht)⟩
theorem Grows.alloc (w : World) (o : Obj) : Grows w (w.alloc o) fun _ => False := ⟨by simp, rfl, rfl, rfl, fun b hb _ => heap_alloc_old w o b hb⟩
theorem Grows.drew (w : World) (T : Nat → Prop) : Grows w w.drew T := ⟨Nat.le_refl _, rfl, rfl, rfl, fun _ _ _ => rfl⟩

/-- A new object; its blocks are new ones. -/
theorem Sim.new (S : Sim c Im ρ F H a w) {w' : World} {r : Nat} {l : Loc} {o : AObj} (hg : Grows w w' fun _ => False) (hu : Unm c r F H) (hl : ∀ b ∈ l.fp, w.heap.size ≤ b ∧ b < w'.heap.size)
    (ho : RO (hp w') Im (upd ρ r (some l)) l o) : Sim c Im (upd ρ r (some l)) F (upd H r (some o)) a w' := by
  have hI : ∀ b, Im b → hp w' b = hp w b := fun b hb => hg.block b (S.imn b hb).1 (fun h => h)
  refine { defs := S.defs, nt := S.nt, fr := fun t ht => ?_, obj := fun q o' hq => ?_, dis := fun q q' o1 o2 l1 l2 h1 h2 hne e1 e2 b hb hb' => ?_, imn := fun b hb => ⟨Nat.lt_of_lt_of_le (S.imn b hb).1 hg.size, (S.imn b hb).2⟩, im0 := S.im0, os := hg.os.trans S.os, tape := hg.tape.trans S.tape, output := hg.output.trans S.output, size := Nat.le_trans S.size hg.size, kept := fun b hb hf => (hg.block b (Nat.lt_of_lt_of_le hb S.size) (fun h => h)).trans (S.kept b hb hf), anc := fun q hq l' hl' => S.anc q hq l' (by rw [upd_ne _ _ (fun e => by subst e; exact absurd hq hu.anc)] at hl'; exact hl') }
  · refine (S.fr t ht).mono (fun _ h => h) hI fun q hq l' hl' => ?_
    have hne : q ≠ r := fun e => by subst e; rw [hu.fr t] at hq; exact absurd hq (by simp)
    rw [upd_ne _ _ hne] at hl'
    exact ⟨l', hl', .inl rfl⟩
  · by_cases he : q = r
    · subst he
      rw [upd_same] at hq
      injection hq with hq
      subst hq
      refine ⟨l, upd_same .., ho, fun b hb => ?_⟩
      have h1 := hl b hb
      have h2 := S.size
      exact ⟨h1.2, fun h => by have := (S.imn b h).1; omega, .inl (by omega)⟩
    · rw [upd_ne _ _ he] at hq
      obtain ⟨l1, h1, h2, h3⟩ := S.obj q o' hq
      refine ⟨l1, by rw [upd_ne _ _ he]; exact h1, h2.mono (fun _ h => h) hI (fun b hb => hg.block b (h3 b hb).1 (fun h => h)) (fun q' hq' l' hl' => ?_), fun b hb => ⟨Nat.lt_of_lt_of_le (h3 b hb).1 hg.size, (h3 b hb).2⟩⟩
      have hne : q' ≠ r := fun e => by subst e; rw [hu.obj q o' hq] at hq'; exact absurd hq' (by simp)
      rw [upd_ne _ _ hne] at hl'
      exact ⟨l', hl', .inl rfl⟩
  · by_cases he : q = r
    · subst he
      rw [upd_same] at e1
      injection e1 with e1
      subst e1
      rw [upd_ne _ _ (Ne.symm hne)] at h2 e2
      obtain ⟨l3, h3, _, h4⟩ := S.obj q' o2 h2
      rw [h3] at e2; injection e2 with e2; subst e2
      have := (h4 b hb').1
      have := (hl b hb).1
      omega
    · rw [upd_ne _ _ he] at h1 e1
      by_cases he' : q' = r
      · subst he'
        rw [upd_same] at e2
        injection e2 with e2
        subst e2
        obtain ⟨l3, h3, _, h4⟩ := S.obj q o1 h1
        rw [h3] at e1; injection e1 with e1; subst e1
        have := (h4 b hb).1
        have := (hl b hb').1
        omega
      · rw [upd_ne _ _ he'] at h2 e2
        exact S.dis q q' o1 o2 l1 l2 h1 h2 hne e1 e2 b hb hb'

/-- An object that is there changes. -/
theorem Sim.chg (S : Sim c Im ρ F H a w) {w' : World} {r : Nat} {l l' : Loc} {o o' : AObj} (hr : H r = some o) (hl : ρ r = some l) (hg : Grows w w' fun b => b ∈ l.fp) (hst : LocStep l l')
    (hl' : ∀ b ∈ l'.fp, b ∈ l.fp ∨ (w.heap.size ≤ b ∧ b < w'.heap.size)) (ho : RO (hp w') Im (upd ρ r (some l')) l' o') : Sim c Im (upd ρ r (some l')) F (upd H r (some o')) a w' := by
  obtain ⟨l0, h0, _, hown⟩ := S.obj r o hr
  rw [hl] at h0; injection h0 with h0; subst h0
  have hI : ∀ b, Im b → hp w' b = hp w b := fun b hb => hg.block b (S.imn b hb).1 fun h => (hown b h).2.1 hb
  have hρ : ∀ q l1, upd ρ r (some l') q = some l1 → ∃ l2, ρ q = some l2 ∧ LocStep l2 l1 := fun q l1 h => by
    by_cases he : q = r
    · subst he; rw [upd_same] at h; injection h with h; subst h; exact ⟨l, hl, hst⟩
    · rw [upd_ne _ _ he] at h; exact ⟨l1, h, .inl rfl⟩
  have hfp : ∀ b ∈ l'.fp, b < w'.heap.size ∧ ¬ Im b ∧ (c.w0.heap.size ≤ b ∨ c.fp b) := fun b hb => by
    rcases hl' b hb with h | h
    · exact ⟨Nat.lt_of_lt_of_le (hown b h).1 hg.size, (hown b h).2⟩
    · have := S.size
      exact ⟨h.2, fun hi => by have := (S.imn b hi).1; omega, .inl (by omega)⟩
  refine { defs := S.defs, nt := S.nt, fr := fun t ht => ?_, obj := fun q o1 hq => ?_, dis := fun q q' o1 o2 l1 l2 h1 h2 hne e1 e2 b hb hb' => ?_, imn := fun b hb => ⟨Nat.lt_of_lt_of_le (S.imn b hb).1 hg.size, (S.imn b hb).2⟩, im0 := S.im0, os := hg.os.trans S.os, tape := hg.tape.trans S.tape, output := hg.output.trans S.output, size := Nat.le_trans S.size hg.size, kept := fun b hb hf => ?_, anc := fun q hq l1 h => let ⟨l2, h2, h3⟩ := hρ q l1 h; let ⟨l3, h4, h5⟩ := S.anc q hq l2 h2; ⟨l3, h4, h5.trans h3⟩ }
  · exact (S.fr t ht).mono (fun _ h => h) hI fun q _ l1 h => hρ q l1 h
  · by_cases he : q = r
    · subst he
      rw [upd_same] at hq; injection hq with hq; subst hq
      exact ⟨l', upd_same .., ho, hfp⟩
    · rw [upd_ne _ _ he] at hq
      obtain ⟨l1, h1, h2, h3⟩ := S.obj q o1 hq
      exact ⟨l1, by rw [upd_ne _ _ he]; exact h1, h2.mono (fun _ h => h) hI (fun b hb => hg.block b (h3 b hb).1 fun h => S.dis q r o1 o l1 l hq hr he h1 hl b hb h) fun q' _ l2 h => hρ q' l2 h,
        fun b hb => ⟨Nat.lt_of_lt_of_le (h3 b hb).1 hg.size, (h3 b hb).2⟩⟩
  · have key : ∀ q o1 l1, H q = some o1 → ρ q = some l1 → q ≠ r → ∀ b ∈ l1.fp, b ∉ l'.fp := fun q o1 l1 hq e hne b hb hb' => by
      obtain ⟨l3, h3, _, h4⟩ := S.obj q o1 hq
      rw [e] at h3; injection h3 with h3; subst h3
      rcases hl' b hb' with h | h
      · exact S.dis q r o1 o l1 l hq hr hne e hl b hb h
      · have := (h4 b hb).1; omega
    by_cases he : q = r
    · subst he
      rw [upd_same] at e1; injection e1 with e1; subst e1
      rw [upd_ne _ _ (Ne.symm hne)] at h2 e2
      exact key q' o2 l2 h2 e2 (Ne.symm hne) b hb' hb
    · rw [upd_ne _ _ he] at h1 e1
      by_cases he' : q' = r
      · subst he'
        rw [upd_same] at e2; injection e2 with e2; subst e2
        exact key q o1 l1 h1 e1 hne b hb hb'
      · rw [upd_ne _ _ he'] at h2 e2
        exact S.dis q q' o1 o2 l1 l2 h1 h2 hne e1 e2 b hb hb'
  · by_cases hbl : b ∈ l.fp
    · rcases (hown b hbl).2.2 with h | h
      · omega
      · exact absurd h hf
    · exact (hg.block b (Nat.lt_of_lt_of_le hb S.size) hbl).trans (S.kept b hb hf)

/-- An object's blocks become immutable; it is no object any more. -/
theorem Sim.freeze (S : Sim c Im ρ F H a w) {r : Nat} {l : Loc} {o : AObj} (hr : H r = some o) (hl : ρ r = some l) : Sim c (fun b => Im b ∨ b ∈ l.fp) (upd ρ r none) F (upd H r none) a w := by
  obtain ⟨l0, h0, _, hown⟩ := S.obj r o hr
  rw [hl] at h0; injection h0 with h0; subst h0
  have hρ : ∀ q l1, upd ρ r none q = some l1 → ∃ l2, ρ q = some l2 ∧ LocStep l2 l1 := fun q l1 h => by
    by_cases he : q = r
    · subst he; rw [upd_same] at h; exact absurd h (by simp)
    · rw [upd_ne _ _ he] at h; exact ⟨l1, h, .inl rfl⟩
  have hH : ∀ q o1, upd H r none q = some o1 → q ≠ r ∧ H q = some o1 := fun q o1 h => by
    by_cases he : q = r
    · subst he; rw [upd_same] at h; exact absurd h (by simp)
    · rw [upd_ne _ _ he] at h; exact ⟨he, h⟩
  refine { defs := S.defs, nt := S.nt, fr := fun t ht => ?_, obj := fun q o1 hq => ?_, dis := fun q q' o1 o2 l1 l2 h1 h2 hne e1 e2 b hb hb' => ?_, imn := fun b hb => ?_, im0 := fun b hb => .inl (S.im0 b hb), os := S.os, tape := S.tape, output := S.output, size := S.size, kept := S.kept, anc := fun q hq l1 h => let ⟨l2, h2, h3⟩ := hρ q l1 h; let ⟨l3, h4, h5⟩ := S.anc q hq l2 h2; ⟨l3, h4, h5.trans h3⟩ }
  · exact (S.fr t ht).mono (fun _ h => .inl h) (fun _ _ => rfl) fun q _ l1 h => hρ q l1 h
  · obtain ⟨he, hq⟩ := hH q o1 hq
    obtain ⟨l1, h1, h2, h3⟩ := S.obj q o1 hq
    refine ⟨l1, by rw [upd_ne _ _ he]; exact h1, h2.mono (fun _ h => .inl h) (fun _ _ => rfl) (fun _ _ => rfl) (fun q' _ l2 h => hρ q' l2 h), fun b hb => ⟨(h3 b hb).1, fun h => ?_, (h3 b hb).2.2⟩⟩
    rcases h with h | h
    · exact (h3 b hb).2.1 h
    · exact S.dis q r o1 o l1 l hq hr he h1 hl b hb h
  · obtain ⟨he, h1⟩ := hH q o1 h1
    obtain ⟨he', h2⟩ := hH q' o2 h2
    rw [upd_ne _ _ he] at e1
    rw [upd_ne _ _ he'] at e2
    exact S.dis q q' o1 o2 l1 l2 h1 h2 hne e1 e2 b hb hb'
  · rcases hb with hb | hb
    · exact S.imn b hb
    · exact ⟨(hown b hb).1, .inr (hown b hb).2.2⟩

/-- New blocks that are immutable from the first. -/
theorem Sim.born (S : Sim c Im ρ F H a w) {w' : World} {B : Nat → Prop} (hg : Grows w w' fun _ => False) (hB : ∀ b, B b → w.heap.size ≤ b ∧ b < w'.heap.size) : Sim c (fun b => Im b ∨ B b) ρ F H a w' := by
  have hI : ∀ b, Im b → hp w' b = hp w b := fun b hb => hg.block b (S.imn b hb).1 (fun h => h)
  have hρ : ∀ q l1, ρ q = some l1 → ∃ l2, ρ q = some l2 ∧ LocStep l2 l1 := fun q l1 h => ⟨l1, h, .inl rfl⟩
  refine { defs := S.defs, nt := S.nt, fr := fun t ht => (S.fr t ht).mono (fun _ h => .inl h) hI fun q _ l1 h => hρ q l1 h, obj := fun q o1 hq => ?_, dis := S.dis, imn := fun b hb => ?_, im0 := fun b hb => .inl (S.im0 b hb), os := hg.os.trans S.os, tape := hg.tape.trans S.tape, output := hg.output.trans S.output, size := Nat.le_trans S.size hg.size, kept := fun b hb hf => (hg.block b (Nat.lt_of_lt_of_le hb S.size) (fun h => h)).trans (S.kept b hb hf), anc := S.anc }
  · obtain ⟨l1, h1, h2, h3⟩ := S.obj q o1 hq
    refine ⟨l1, h1, h2.mono (fun _ h => .inl h) hI (fun b hb => hg.block b (h3 b hb).1 (fun h => h)) (fun q' _ l2 h => hρ q' l2 h), fun b hb => ⟨Nat.lt_of_lt_of_le (h3 b hb).1 hg.size, fun h => ?_, (h3 b hb).2.2⟩⟩
    rcases h with h | h
    · exact (h3 b hb).2.1 h
    · have := (hB b h).1; have := (h3 b hb).1; omega
  · rcases hb with hb | hb
    · exact ⟨Nat.lt_of_lt_of_le (S.imn b hb).1 hg.size, (S.imn b hb).2⟩
    · have := hB b hb; have := S.size
      exact ⟨by omega, .inr (.inl (by omega))⟩

end Go.Ax
