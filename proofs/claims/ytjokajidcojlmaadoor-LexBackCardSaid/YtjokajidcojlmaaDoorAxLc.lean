/- Abstract execution, part Lc: maps that are a call's own: plain keys, single values. -/
import Derived.Test.YtjokajidcojlmaaDoorAxLb
import Derived.MapKept
namespace Go.Ax

/-- The place of a key among a map's entries. -/
def mfind (l : List TK) (key : List D) : List (List D × D) → Nat → Option Nat
  | [], _ => none
  | e :: r, i => match eqAll l key e.1 0 with
    | true => some i
    | false => mfind l key r (i + 1)
def mput (l : List TK) (key : List D) (v : D) (es : List (List D × D)) : List (List D × D) := match mfind l key es 0 with
  | some i => es.set i (key, v)
  | none => es ++ [(key, v)]
def mget (l : List TK) (key : List D) (z : D) (es : List (List D × D)) : D := match mfind l key es 0 with
  | some i => (es.getD i (key, z)).2
  | none => z
def mhas (l : List TK) (key : List D) (es : List (List D × D)) : Bool := (mfind l key es 0).isSome

def KeysOk (l : List TK) (es : List (List D × D)) : Prop := ∀ e ∈ es, e.1.length = l.length ∧ AllL (hasAll l e.1 0)
def KeyOk (l : List TK) (kc : List D) : Prop := kc.length = l.length ∧ AllL (hasAll l kc 0)

theorem mfind_lt {l : List TK} {key : List D} : ∀ {es : List (List D × D)} {i j : Nat}, mfind l key es i = some j → i ≤ j ∧ j < i + es.length
  | [], i, j, h => by simp [mfind] at h
  | e :: r, i, j, h => by
    simp only [mfind] at h
    split at h
    · injection h with h; subst h; simp
    · have := mfind_lt h; simp; omega
theorem mfind_eq {l : List TK} {key : List D} : ∀ {es : List (List D × D)} {i j : Nat}, mfind l key es i = some j → ∀ e, es[j - i]? = some e → eqAll l key e.1 0 = true
  | [], i, j, h, e, _ => by simp [mfind] at h
  | e0 :: r, i, j, h, e, he => by
    simp only [mfind] at h
    split at h
    · rename_i hq
      injection h with h; subst h
      simp at he; subst he; exact hq
    · have h1 := mfind_lt h
      refine mfind_eq h e ?_
      rw [show j - i = (j - (i + 1)) + 1 by omega] at he
      simpa using he

/-- One entry of the machine, and what is known of it. -/
def EntR (h : Nat → Option Obj) (Im : Nat → Prop) (ag : Bool) (e : MapEntry) (x : List D × D) : Prop := RD h Im e.val x.2 ∧ KeyR h Im ag e.key x.1

theorem cellEq_eq {k : TK} {v u : Value} (hv : cellOk k v) (hu : cellOk k u) (h : cellEq v u = true) : v = u := by
  cases k <;> simp only [cellOk] at hv hu
  · obtain ⟨n, rfl⟩ := hv; obtain ⟨m, rfl⟩ := hu; simp [cellEq] at h; rw [h]
  · obtain ⟨n, rfl⟩ := hv; obtain ⟨m, rfl⟩ := hu; simp [cellEq] at h; rw [h]
  · obtain ⟨n, rfl⟩ := hv; obtain ⟨m, rfl⟩ := hu
    have h : (n.data.toList == m.data.toList) = true := h
    have h : n.data.toList = m.data.toList := eq_of_beq h
    have : n = m := by
      obtain ⟨⟨x⟩⟩ := n; obtain ⟨⟨y⟩⟩ := m
      have h : x = y := h
      rw [h]
    rw [this]
theorem sameBits_cell {k : TK} {v : Value} (n : Nat) (hv : cellOk k v) : Instr.sameBits n v v = true := by
  cases k <;> simp only [cellOk] at hv
  · obtain ⟨m, rfl⟩ := hv; simp [Instr.sameBits]
  · obtain ⟨m, rfl⟩ := hv; simp [Instr.sameBits]
  · obtain ⟨m, rfl⟩ := hv; simp [Instr.sameBits, beq_toListBytes]

section
variable {P : Program} (w : World)

/-- A scalar kind of a type. -/
theorem flat_scalar {t : TypeId} {i : TI} (hi : tiOf P t = some i) (hne : i.fl ≠ []) (ha : i.k.agg = false) : ∃ k, i.fl = [k] ∧ isPlain k = true ∧ ((∃ q, k = .int q ∧ P.underlying t = some (.int q)) ∨ (k = .bool ∧ P.underlying t = some .bool) ∨ (k = .str ∧ P.underlying t = some .string)) := by
  obtain ⟨h1, _⟩ := flOf_spec hi hne
  obtain ⟨_, d, _, _, g2, _, hii⟩ := tiOf_spec hi
  generalize hfl : i.fl = l at h1
  unfold flatL at h1
  split at h1
  · rename_i i0 k h0 hu
    split at h1
    · injection h1 with h1; exact ⟨_, h1.symm, rfl, .inl ⟨k, rfl, hu⟩⟩
    · simp at h1
  · rename_i i0 h0 hu
    split at h1
    · injection h1 with h1; exact ⟨_, h1.symm, rfl, .inr (.inl ⟨rfl, hu⟩)⟩
    · simp at h1
  · rename_i i0 h0 hu
    split at h1
    · injection h1 with h1; exact ⟨_, h1.symm, rfl, .inr (.inr ⟨rfl, hu⟩)⟩
    · simp at h1
  · rename_i i0 fs h0 hu
    rw [hu] at g2; injection g2 with g2; subst g2; rw [hii] at ha; simp [kindOf, TK.agg] at ha
  · rename_i i0 n e h0 hu
    rw [hu] at g2; injection g2 with g2; subst g2; rw [hii] at ha; simp [kindOf, TK.agg] at ha
  · simp at h1
theorem flat_wide {t : TypeId} {i : TI} (hi : tiOf P t = some i) (ha : i.k.agg = true) : ∃ d, P.underlying t = some d ∧ ∀ u v, Instr.sameNow d u v = none := by
  obtain ⟨_, d, _, _, g2, _, hii⟩ := tiOf_spec hi
  refine ⟨d, g2, fun u v => ?_⟩
  rw [hii] at ha
  cases d <;> simp [kindOf, TK.agg] at ha <;> simp [Instr.sameNow]

theorem run_findAsking {t : TypeId} {i : TI} (hi : tiOf P t = some i) (hne : i.fl ≠ []) (ha : i.k.agg = true) (hsz : i.size = i.fl.length) {Im : Nat → Prop} {v : Value} {kc : List D} (hv : KeyR (hp w) Im true v kc) (hk : KeyOk i.fl kc) :
    ∀ (ms : List MapEntry) (es : List (List D × D)) (j : Nat), ms.length = es.length → (∀ (q : Nat) (e : MapEntry) (x : List D × D), ms[q]? = some e → es[q]? = some x → EntR (hp w) Im true e x) → KeysOk i.fl es →
      (Instr.findAsking t v ms j).run P w = .ok ((mfind i.fl kc es j).bind fun q => (ms[q - j]?).map fun e => (q, e.val)) w
  | [], [], j, _, _, _ => by simp [Instr.findAsking, mfind]
  | [], _ :: _, j, h, _, _ => by simp at h
  | _ :: _, [], j, h, _, _ => by simp at h
  | e :: ms, x :: es, j, h, hr, hko => by
    have h0 := hr 0 e x rfl rfl
    obtain ⟨cs, rfl, hc1, hc2⟩ := hv
    obtain ⟨es2, he2, hd1, hd2⟩ := h0.2
    have hx := hko x (by simp)
    obtain ⟨q1, _⟩ := run_equal_flat w hi hne ha hsz ⟨hc1, hc2⟩ ⟨hd1, hd2⟩ hk.1 hx.1 hk.2 hx.2
    have q2 : (Op.equal t (.agg cs) e.key).run P w = .ok (eqAll i.fl kc x.1 0) w := by rw [he2]; exact q1
    simp only [Instr.findAsking, Sem.run_bind, q2, Result.andThen_ok, mfind]
    cases hq : eqAll i.fl kc x.1 0 with
    | true => simp
    | false =>
      simp only [Bool.false_eq_true, if_false]
      rw [run_findAsking hi hne ha hsz ⟨cs, rfl, hc1, hc2⟩ hk ms es (j + 1) (by simpa using h) (fun q e' x' h1 h2 => hr (q + 1) e' x' (by simpa using h1) (by simpa using h2)) (fun y hy => hko y (by simp [hy]))]
      congr 1
      cases hm : mfind i.fl kc es (j + 1) with
      | none => rfl
      | some q =>
        have := (mfind_lt hm).1
        simp only [Option.bind_some]
        rw [show q - j = (q - (j + 1)) + 1 by omega]; simp

theorem findNow_scalar {t : TypeId} {d : TypeDesc} {k : TK} (hkp : isPlain k = true) (hu : P.underlying t = some d) (hk3 : (∃ q, k = .int q ∧ P.underlying t = some (.int q)) ∨ (k = .bool ∧ P.underlying t = some .bool) ∨ (k = .str ∧ P.underlying t = some .string))
    {Im : Nat → Prop} {v : Value} {kc : List D} (hv : KeyR (hp w) Im false v kc) (hk : KeyOk [k] kc) :
    ∀ (ms : List MapEntry) (es : List (List D × D)) (j : Nat), ms.length = es.length → (∀ (q : Nat) (e : MapEntry) (x : List D × D), ms[q]? = some e → es[q]? = some x → EntR (hp w) Im false e x) → KeysOk [k] es →
      Instr.findNow d v ms j = some ((mfind [k] kc es j).bind fun q => (ms[q - j]?).map fun e => (q, e.val))
  | [], [], j, _, _, _ => by simp [Instr.findNow, mfind]
  | [], _ :: _, j, h, _, _ => by simp at h
  | _ :: _, [], j, h, _, _ => by simp at h
  | e :: ms, x :: es, j, h, hr, hko => by
    have h0 := hr 0 e x rfl rfl
    obtain ⟨y, rfl, hy⟩ := hv
    obtain ⟨z, hz, hz2⟩ := h0.2
    have hx := hko x (by simp)
    rw [hz] at hx
    obtain ⟨c1, c2⟩ := cell_of_has hkp hk.2.1 hy
    obtain ⟨c3, c4⟩ := cell_of_has hkp hx.2.1 hz2
    have q2 : Instr.sameNow d v e.key = some (eqAll [k] [y] x.1 0) := by
      rw [hz]
      simp only [eqAll, List.getD_cons_zero, Bool.and_true]
      rw [show y = .v v from c2, show z = .v e.key from c4]
      rcases hk3 with ⟨q, rfl, hu2⟩ | ⟨rfl, hu2⟩ | ⟨rfl, hu2⟩
      · rw [hu] at hu2; injection hu2 with hu2; subst hu2
        obtain ⟨m, hm⟩ := c1; obtain ⟨n, hn⟩ := c3
        rw [hm, hn]; simp [Instr.sameNow, scEq, D.int]
      · rw [hu] at hu2; injection hu2 with hu2; subst hu2
        obtain ⟨m, hm⟩ := c1; obtain ⟨n, hn⟩ := c3
        rw [hm, hn]; simp [Instr.sameNow, scEq, D.bool]
      · rw [hu] at hu2; injection hu2 with hu2; subst hu2
        obtain ⟨m, hm⟩ := c1; obtain ⟨n, hn⟩ := c3
        rw [hm, hn]; simp [Instr.sameNow, scEq, D.str, beq_toListBytes, ByteArray.toList_eq]
    simp only [Instr.findNow, q2, mfind]
    cases hq : eqAll [k] [y] x.1 0 with
    | true => simp
    | false =>
      rw [findNow_scalar hkp hu hk3 ⟨y, rfl, hy⟩ hk ms es (j + 1) (by simpa using h) (fun q e' x' h1 h2 => hr (q + 1) e' x' (by simpa using h1) (by simpa using h2)) (fun y hy => hko y (by simp [hy]))]
      congr 1
      cases hm : mfind [k] [y] es (j + 1) with
      | none => rfl
      | some q =>
        have := (mfind_lt hm).1
        simp only [Option.bind_some]
        rw [show q - j = (q - (j + 1)) + 1 by omega]; simp

theorem run_findKey {t : TypeId} {i : TI} (hi : tiOf P t = some i) (hne : i.fl ≠ []) (hsz : i.size = i.fl.length) {Im : Nat → Prop} {v : Value} {kc : List D} (hv : KeyR (hp w) Im i.k.agg v kc) (hk : KeyOk i.fl kc)
    {ms : Array MapEntry} {es : List (List D × D)} (hl : ms.size = es.length) (hr : ∀ (q : Nat) (e : MapEntry) (x : List D × D), ms[q]? = some e → es[q]? = some x → EntR (hp w) Im i.k.agg e x) (hko : KeysOk i.fl es) :
    (Instr.findKey t v ms.toList).run P w = .ok ((mfind i.fl kc es 0).bind fun q => (ms[q]?).map fun e => (q, e.val)) w ∧ ∀ E, (Instr.checkKey E 10000 t v).run P w = .ok () w := by
  cases ha : i.k.agg with
  | true =>
    rw [ha] at hv hr
    obtain ⟨d, hu, hnow⟩ := flat_wide hi ha
    have hask := run_findAsking w hi hne ha hsz hv hk ms.toList es 0 (by simpa using hl) (fun q e x h1 h2 => hr q e x (by simpa using h1) h2) hko
    simp only [Nat.sub_zero, Array.getElem?_toList] at hask
    obtain ⟨cs, rfl, hc1, hc2⟩ := hv
    refine ⟨?_, (run_equal_flat w hi hne ha hsz ⟨hc1, hc2⟩ ⟨hc1, hc2⟩ hk.1 hk.1 hk.2 hk.2).2⟩
    simp only [Instr.findKey, Sem.run_bind, run_underlying hu, Result.andThen_ok]
    cases hm : ms.toList with
    | nil =>
      rw [hm] at hask
      simp only [Instr.findNow]
      simpa [Instr.findAsking] using hask
    | cons e ml =>
      rw [hm] at hask
      simp only [Instr.findNow, hnow]
      exact hask
  | false =>
    rw [ha] at hv hr
    obtain ⟨k, hk1, hkp, hk3⟩ := flat_scalar hi hne ha
    rw [hk1] at hk hko ⊢
    obtain ⟨_, d, _, _, hu, _, _⟩ := tiOf_spec hi
    have hnow := findNow_scalar w hkp hu hk3 hv hk ms.toList es 0 (by simpa using hl) (fun q e x h1 h2 => hr q e x (by simpa using h1) h2) hko
    simp only [Nat.sub_zero, Array.getElem?_toList] at hnow
    refine ⟨?_, fun E => ?_⟩
    · simp only [Instr.findKey, Sem.run_bind, run_underlying hu, Result.andThen_ok, hnow]
      simp
    · have gen : ∀ n, (Instr.checkKey E (n + 1) t v).run P w = .ok () w := fun n => by
        rcases hk3 with ⟨q, rfl, hu⟩ | ⟨rfl, hu⟩ | ⟨rfl, hu⟩ <;> simp [Instr.checkKey, run_underlying hu]
      exact gen 9999

/-- A key that is there already is the very same. -/
theorem key_same {t : TypeId} {i : TI} (hi : tiOf P t = some i) (hne : i.fl ≠ []) {Im : Nat → Prop} {v u : Value} {kc kd : List D} (hv : KeyR (hp w) Im i.k.agg v kc) (hk : KeyOk i.fl kc) (hu : KeyR (hp w) Im i.k.agg u kd) (hd : KeyOk i.fl kd) (h : eqAll i.fl kc kd 0 = true) : Instr.sameBits 10000 u v = true := by
  have hpl := flat_plain _ _ _ (flOf_spec hi hne).1
  cases ha : i.k.agg with
  | false =>
    rw [ha] at hv hu
    obtain ⟨k, hk1, hkp, _⟩ := flat_scalar hi hne ha
    rw [hk1] at hk hd h
    obtain ⟨y, rfl, hy⟩ := hv
    obtain ⟨z, rfl, hz⟩ := hu
    obtain ⟨c1, c2⟩ := cell_of_has hkp hk.2.1 hy
    obtain ⟨c3, c4⟩ := cell_of_has hkp hd.2.1 hz
    simp only [eqAll, List.getD_cons_zero, Bool.and_true] at h
    have hy2 : y = .v v := c2
    have hz2 : z = .v u := c4
    rw [hy2, hz2, ← cellEq_sc c1 c3] at h
    have := cellEq_eq c1 c3 h
    subst this
    exact sameBits_cell _ c1
  | true =>
    rw [ha] at hv hu
    obtain ⟨cs, rfl, hc1, hc2⟩ := hv
    obtain ⟨ds, rfl, hd1, hd2⟩ := hu
    have kn : KnownC (hp w) Im cs kc := ⟨hc1, hc2⟩
    have kd' : KnownC (hp w) Im ds kd := ⟨hd1, hd2⟩
    rw [← known_eq kn kd' i.fl 0 hpl (by have := hk.1; omega) (by have := hd.1; omega) hk.2 hd.2] at h
    have f1 := known_fits hpl kn hk.1 hk.2
    have f2 := known_fits hpl kd' hd.1 hd.2
    have key : ∀ (l : List TK) (o : Nat), eqV l cs ds o = true → FitsV l cs o → FitsV l ds o → ∀ j, j < l.length → cs.getD (o + j) undef = ds.getD (o + j) undef := by
      intro l
      induction l with
      | nil => intro o _ _ _ j hj; simp at hj
      | cons k l ih =>
        intro o he g1 g2 j hj
        simp only [eqV, Bool.and_eq_true] at he
        cases j with
        | zero =>
          have a1 := g1 0 k rfl
          have a2 := g2 0 k rfl
          simp only [Nat.add_zero] at a1 a2 ⊢
          exact cellEq_eq a1 a2 he.1
        | succ j =>
          have := ih (o + 1) he.2 (fun q k' hq => by have := g1 (q + 1) k' (by simpa using hq); rwa [show o + (q + 1) = o + 1 + q by omega] at this) (fun q k' hq => by have := g2 (q + 1) k' (by simpa using hq); rwa [show o + (q + 1) = o + 1 + q by omega] at this) j (by simpa using hj)
          rwa [show o + (j + 1) = o + 1 + j by omega]
    have hall := key i.fl 0 h f1 f2
    have hsz : cs.size = ds.size := by rw [hc1, hd1, hk.1, hd.1]
    have heq : cs = ds := by
      apply Array.ext hsz
      intro j h1 h2
      have := hall j (by rw [← hk.1, ← hc1]; exact h1)
      simpa [Array.getD, h1, h2] using this
    subst heq
    simp only [Instr.sameBits, beq_self_eq_true, Bool.true_and]
    rw [List.all_eq_true]
    rintro ⟨x, y⟩ hxy
    have hxy2 : x = y ∧ x ∈ cs.toList := by
      obtain ⟨j, hj⟩ := List.getElem?_of_mem hxy
      rw [List.getElem?_zip_eq_some] at hj
      have := hj.1.symm.trans hj.2
      exact ⟨Option.some.inj this, List.mem_of_getElem? hj.1⟩
    obtain ⟨rfl, hx⟩ := hxy2
    obtain ⟨j, hj⟩ := List.getElem?_of_mem hx
    have hjl : j < cs.size := by simpa using (List.getElem?_eq_some_iff.1 hj).1
    have hjf : j < i.fl.length := by rw [← hk.1, ← hc1]; exact hjl
    have := f1 j i.fl[j] (List.getElem?_eq_getElem hjf)
    rw [Nat.zero_add] at this
    have hx2 : cs.getD j undef = x := by
      have : cs[j]? = some x := by simpa using hj
      simp [Array.getD, hjl]
      exact (Array.getElem?_eq_some_iff.1 this).2
    rw [hx2] at this
    exact sameBits_cell _ this

end
end Go.Ax
