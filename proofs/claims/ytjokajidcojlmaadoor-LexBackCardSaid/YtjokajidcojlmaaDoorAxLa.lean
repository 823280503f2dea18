/- Abstract execution, part La: whether two values of many plain parts are the same; keys of maps. -/
import Derived.Test.YtjokajidcojlmaaDoorAxL
import Derived.Laws.StructEq
import Derived.ChangeKeysEq
namespace Go.Ax

def scEq (k : TK) (a b : D) : Bool := match k with
  | .int _ => a.int == b.int
  | .bool => a.bool == b.bool
  | .str => a.str.data.toList == b.str.data.toList
  | _ => false
def eqAll : List TK → List D → List D → Nat → Bool
  | [], _, _, _ => true
  | k :: ks, a, b, i => scEq k (a.getD i (.v undef)) (b.getD i (.v undef)) && eqAll ks a b (i + 1)
def hasAll : List TK → List D → Nat → List Prop
  | [], _, _ => []
  | k :: ks, a, i => has k 0 (a.getD i (.v undef)) :: hasAll ks a (i + 1)

def isPlain : TK → Bool
  | .int _ | .bool | .str => true
  | _ => false

/-! The same of the machine's cells. -/
def cellOk (k : TK) (v : Value) : Prop := match k with
  | .int q => ∃ n, v = .int q n
  | .bool => ∃ b, v = .bool b
  | .str => ∃ s, v = .string s
  | _ => False
def cellEq (v u : Value) : Bool := match v, u with
  | .int _ a, .int _ b => a == b
  | .bool a, .bool b => a == b
  | .string a, .string b => a.data.toList == b.data.toList
  | _, _ => false
def eqV : List TK → Array Value → Array Value → Nat → Bool
  | [], _, _, _ => true
  | _ :: ks, a, b, i => cellEq (a.getD i undef) (b.getD i undef) && eqV ks a b (i + 1)

theorem eqV_append (x y : List TK) (a b : Array Value) (i : Nat) : eqV (x ++ y) a b i = (eqV x a b i && eqV y a b (i + x.length)) := by
  induction x generalizing i with
  | nil => simp [eqV]
  | cons k x ih => simp [eqV, ih, Bool.and_assoc, Nat.add_assoc, Nat.add_comm 1]

theorem eqV_congr (l : List TK) (a b a' b' : Array Value) (i i' : Nat) (h : ∀ j, j < l.length → a.getD (i + j) undef = a'.getD (i' + j) undef ∧ b.getD (i + j) undef = b'.getD (i' + j) undef) : eqV l a b i = eqV l a' b' i' := by
  induction l generalizing i i' with
  | nil => rfl
  | cons k l ih =>
    have h0 := h 0 (by simp)
    simp only [Nat.add_zero] at h0
    simp only [eqV, h0.1, h0.2]
    congr 1
    refine ih (i + 1) (i' + 1) fun j hj => ?_
    have := h (j + 1) (by simp; omega)
    rw [show i + (j + 1) = i + 1 + j by omega, show i' + (j + 1) = i' + 1 + j by omega] at this
    exact this

/-- The cells fit the kinds. -/
def FitsV (l : List TK) (a : Array Value) (i : Nat) : Prop := ∀ (j : Nat) (k : TK), l[j]? = some k → cellOk k (a.getD (i + j) undef)

theorem FitsV.left {x y : List TK} {a : Array Value} {i : Nat} (h : FitsV (x ++ y) a i) : FitsV x a i := fun j k hj => h j k (by rw [List.getElem?_append_left (List.getElem?_eq_some_iff.1 hj).1]; exact hj)
theorem FitsV.right {x y : List TK} {a : Array Value} {i : Nat} (h : FitsV (x ++ y) a i) : FitsV y a (i + x.length) := fun j k hj => by
  have := h (x.length + j) k (by rw [List.getElem?_append_right (by omega)]; simpa using hj)
  rw [show i + x.length + j = i + (x.length + j) by omega]; exact this

theorem getD_extract (a : Array Value) (off n j : Nat) (hj : j < n) (hl : off + n ≤ a.size) : (a.extract off (off + n)).getD j undef = a.getD (off + j) undef := by
  have h2 : off + j < a.size := by omega
  have h3 : j < min (off + n) a.size - off := by omega
  simp [Array.getD, h2, h3]

theorem cellOk_int {k : TK} {v : Value} (h : cellOk k v) : isPlain k = true := by cases k <;> simp_all [cellOk, isPlain]

section
variable {P : Program} (w : World)

theorem equalIn_cell {D : Nat} {t : TypeId} {k : TK} {a b : Value} (hu : (∃ q, k = .int q ∧ P.underlying t = some (.int q)) ∨ (k = .bool ∧ P.underlying t = some .bool) ∨ (k = .str ∧ P.underlying t = some .string)) (ha : cellOk k a) (hb : cellOk k b) :
    (Op.equalIn (D + 1) t a b).run P w = .ok (cellEq a b) w := by
  rcases hu with ⟨q, rfl, hu⟩ | ⟨rfl, hu⟩ | ⟨rfl, hu⟩
  · obtain ⟨m, rfl⟩ := ha; obtain ⟨n, rfl⟩ := hb
    rw [run_equalIn_int w D t q q m n hu]; rfl
  · obtain ⟨m, rfl⟩ := ha; obtain ⟨n, rfl⟩ := hb
    rw [run_equalIn_bool' w D t m n hu]; rfl
  · obtain ⟨m, rfl⟩ := ha; obtain ⟨n, rfl⟩ := hb
    rw [run_equalIn_string w D t m n hu]; rw [ByteArray.toList_eq, ByteArray.toList_eq]; rfl

/-- What is asked at each type. -/
def FlatOk (P : Program) (w : World) (d : Nat) (t : TypeId) (l : List TK) : Prop := ∀ (xs ys : Array Value) (off D : Nat), off + l.length ≤ xs.size → off + l.length ≤ ys.size → FitsV l xs off → FitsV l ys off →
  ∃ a b, (part t xs off).run P w = .ok a w ∧ (part t ys off).run P w = .ok b w ∧ (Op.equalIn (D + d) t a b).run P w = .ok (eqV l xs ys off) w ∧ (∀ E, (Instr.checkKey E (D + d) t a).run P w = .ok () w)

theorem flatFs_ok {go : TypeId → Option (List TK)} {d : Nat} (hgo : ∀ t l, go t = some l → FlatOk P w d t l) (xs ys : Array Value) (D : Nat) : ∀ (fs : List Field) (off : Nat) (l : List TK), flatFs go off fs = some l → off + l.length ≤ xs.size → off + l.length ≤ ys.size → FitsV l xs off → FitsV l ys off →
    (Op.eqFields (D + d) xs ys fs).run P w = .ok (eqV l xs ys off) w ∧
    ∀ E, (forIn (m := Sem) fs PUnit.unit fun f (_ : PUnit) => if f.name ≠ "_" then (do Instr.checkKey E (D + d) f.type (← part f.type xs f.offset); pure (.yield PUnit.unit)) else pure (.yield PUnit.unit)).run P w = .ok PUnit.unit w
  | [], off, l, h, _, _, _, _ => by
    simp only [flatFs] at h
    injection h with h; subst h
    exact ⟨by simp [Op.eqFields, eqV], fun E => by simp⟩
  | f :: fs, off, l, h, hx, hy, fx, fy => by
    simp only [flatFs] at h
    split at h
    · rename_i l1 h1 h2 h3
      split at h
      · rename_i r hr
        injection h with h; subst h
        have h2 := Nat.eq_of_beq_eq_true h2
        have hne : f.name ≠ "_" := by simpa using h1
        simp only [List.length_append] at hx hy
        obtain ⟨a, b, e1, e2, e3, e4⟩ := hgo f.type l1 h3 xs ys off D (by omega) (by omega) fx.left fy.left
        obtain ⟨i1, i2⟩ := flatFs_ok hgo xs ys D fs (off + l1.length) r hr (by omega) (by omega) fx.right fy.right
        subst h2
        constructor
        · simp only [Op.eqFields, if_pos hne, Sem.run_bind, e1, e2, e3, Result.andThen_ok, eqV_append]
          cases he : eqV l1 xs ys f.offset with
          | false => simp
          | true => simpa using i1
        · intro E
          simp only [List.forIn_cons, if_pos hne, Sem.run_bind, e1, e4 E, Result.andThen_ok, Sem.run_pure]
          exact i2 E
      · simp at h
    · simp at h

theorem flat_ok : ∀ (d : Nat) (t : TypeId) (l : List TK), flatL P d t = some l → FlatOk P w d t l := by
  intro d
  induction d with
  | zero => intro t l h; simp [flatL] at h
  | succ d ih =>
    intro t l h
    have scal : ∀ (k : TK) (i : TI), tiOf0 P t = some i → i.k = k → i.size = 1 → k.agg = false → l = [k] → ((∃ q, k = .int q ∧ P.underlying t = some (.int q)) ∨ (k = .bool ∧ P.underlying t = some .bool) ∨ (k = .str ∧ P.underlying t = some .string)) → FlatOk P w (d + 1) t l := fun k i hi hk hs ha hl hu => by
      subst hl
      intro xs ys off D hx hy fx fy
      have px := run_part (w := w) (tiOf_of0 hi) (fun _ => hs) (cs := xs) (off := off) (by simp at hx; simp; omega)
      have py := run_part (w := w) (tiOf_of0 hi) (fun _ => hs) (cs := ys) (off := off) (by simp at hy; simp; omega)
      simp only [hk, ha] at px py
      have ox := fx 0 k rfl
      have oy := fy 0 k rfl
      simp only [Nat.add_zero] at ox oy
      refine ⟨_, _, px, py, ?_, fun E => ?_⟩
      · rw [← Nat.add_assoc]
        simp only [Bool.false_eq_true, if_false]
        rw [equalIn_cell w hu ox oy]
        simp [eqV]
      · rw [← Nat.add_assoc]
        simp only [Bool.false_eq_true, if_false]
        rcases hu with ⟨q, rfl, hu⟩ | ⟨rfl, hu⟩ | ⟨rfl, hu⟩ <;> simp [Instr.checkKey, run_underlying hu]
    unfold flatL at h
    split at h
    · rename_i i k hi hu
      split at h
      · rename_i hs
        injection h with h
        obtain ⟨_, d0, _, _, g2, _, rfl⟩ := tiOf0_spec hi
        rw [hu] at g2; injection g2 with g2; subst g2
        exact scal (.int k) _ hi rfl (Nat.eq_of_beq_eq_true hs) rfl h.symm (.inl ⟨k, rfl, hu⟩)
      · simp at h
    · rename_i i hi hu
      split at h
      · rename_i hs
        injection h with h
        obtain ⟨_, d0, _, _, g2, _, rfl⟩ := tiOf0_spec hi
        rw [hu] at g2; injection g2 with g2; subst g2
        exact scal .bool _ hi rfl (Nat.eq_of_beq_eq_true hs) rfl h.symm (.inr (.inl ⟨rfl, hu⟩))
      · simp at h
    · rename_i i hi hu
      split at h
      · rename_i hs
        injection h with h
        obtain ⟨_, d0, _, _, g2, _, rfl⟩ := tiOf0_spec hi
        rw [hu] at g2; injection g2 with g2; subst g2
        exact scal .str _ hi rfl (Nat.eq_of_beq_eq_true hs) rfl h.symm (.inr (.inr ⟨rfl, hu⟩))
      · simp at h
    · rename_i i fs hi hu
      split at h
      · rename_i l0 hst hfs
        split at h
        · rename_i hs
          injection h with h; subst h
          have hs := Nat.eq_of_beq_eq_true hs
          intro xs ys off D hx hy fx fy
          have hagg : i.k.agg = true := by
            obtain ⟨_, d0, _, _, g2, _, rfl⟩ := tiOf0_spec hi
            rw [hu] at g2; injection g2 with g2; subst g2; rfl
          have px := run_part (w := w) (tiOf_of0 hi) (fun h => by simp only [hagg] at h; simp at h) (cs := xs) (off := off) (by simp only; omega)
          have py := run_part (w := w) (tiOf_of0 hi) (fun h => by simp only [hagg] at h; simp at h) (cs := ys) (off := off) (by simp only; omega)
          simp only [hagg, if_true] at px py
          have hfs' : P.fieldsOf t = fs := by simp [Program.fieldsOf, hu]
          rw [hs] at px py
          have fit : ∀ {zs : Array Value}, off + l0.length ≤ zs.size → FitsV l0 zs off → FitsV l0 (zs.extract off (off + l0.length)) 0 := fun hz f j k hj => by
            have hjl := (List.getElem?_eq_some_iff.1 hj).1
            rw [Nat.zero_add, getD_extract _ _ _ _ hjl hz]
            exact f j k hj
          obtain ⟨k1, k2⟩ := flatFs_ok w ih (xs.extract off (off + l0.length)) (ys.extract off (off + l0.length)) D fs.toList 0 l0 hfs (by simp; omega) (by simp; omega) (fit hx fx) (fit hy fy)
          refine ⟨_, _, px, py, ?_, fun E => ?_⟩
          · rw [← Nat.add_assoc, run_equalIn_struct w (D + d) t _ _ (by rw [hfs']; exact hu) hst, hfs', k1]
            congr 1
            refine eqV_congr _ _ _ _ _ _ _ fun j hj => ?_
            rw [Nat.zero_add, getD_extract _ _ _ _ hj hx, getD_extract _ _ _ _ hj hy]
            exact ⟨rfl, rfl⟩
          · rw [← Nat.add_assoc]
            simp only [Instr.checkKey, Sem.run_bind, run_underlying hu, Result.andThen_ok]
            rw [← Array.forIn_toList]
            have := k2 E
            rw [this]
            rfl
        · simp at h
      · simp at h
    · rename_i i n e hi hu
      split at h
      · rename_i l0 ei hl0 hei
        split at h
        · rename_i hs1 hs2
          injection h with h; subst h
          have hs1 := Nat.eq_of_beq_eq_true hs1
          have hs2 := Nat.eq_of_beq_eq_true hs2
          intro xs ys off D hx hy fx fy
          have hlen : ∀ n, ((List.replicate n l0).flatten).length = n * l0.length := fun n => by simp
          rw [hlen] at hx hy
          have hagg : i.k.agg = true := by
            obtain ⟨_, d0, _, _, g2, _, rfl⟩ := tiOf0_spec hi
            rw [hu] at g2; injection g2 with g2; subst g2; rfl
          have px := run_part (w := w) (tiOf_of0 hi) (fun h => by simp only [hagg] at h; simp at h) (cs := xs) (off := off) (by simp only; omega)
          have py := run_part (w := w) (tiOf_of0 hi) (fun h => by simp only [hagg] at h; simp at h) (cs := ys) (off := off) (by simp only; omega)
          simp only [hagg, if_true] at px py
          rw [hs2] at px py
          obtain ⟨einf, _, _, g1, _, _, rfl⟩ := tiOf0_spec hei
          have hc : P.cellsOf e = l0.length := by simp [Program.cellsOf, g1]; exact hs1
          have fit : ∀ {zs : Array Value}, off + n * l0.length ≤ zs.size → FitsV (List.replicate n l0).flatten zs off → FitsV (List.replicate n l0).flatten (zs.extract off (off + n * l0.length)) 0 := fun hz f j k hj => by
            have hjl := (List.getElem?_eq_some_iff.1 hj).1
            rw [hlen] at hjl
            rw [Nat.zero_add, getD_extract _ _ _ _ hjl hz]
            exact f j k hj
          have items : ∀ (m j : Nat) (as bs : Array Value), (j + m) * l0.length ≤ as.size → (j + m) * l0.length ≤ bs.size → FitsV (List.replicate m l0).flatten as (j * l0.length) → FitsV (List.replicate m l0).flatten bs (j * l0.length) →
              (Op.eqItems (D + d) e l0.length as bs (List.range' j m)).run P w = .ok (eqV (List.replicate m l0).flatten as bs (j * l0.length)) w ∧
              ∀ E, (forIn (m := Sem) (List.range' j m) PUnit.unit fun i (_ : PUnit) => (do Instr.checkKey E (D + d) e (← part e as (i * (← sizeOf e))); pure (.yield PUnit.unit))).run P w = .ok PUnit.unit w := by
            intro m
            induction m with
            | zero => intro j as bs _ _ _ _; simp [Op.eqItems, eqV]
            | succ m ihm =>
              intro j as bs ha hb fa fb
              rw [List.replicate_succ, List.flatten_cons] at fa fb ⊢
              have e0 : (j + (m + 1)) * l0.length = j * l0.length + l0.length + m * l0.length := by rw [Nat.add_mul, Nat.add_mul]; omega
              rw [e0] at ha hb
              obtain ⟨a, b, e1, e2, e3, e4⟩ := ih e l0 hl0 as bs (j * l0.length) D (by omega) (by omega) fa.left fb.left
              have e5 : (j + 1) * l0.length = j * l0.length + l0.length := by rw [Nat.add_mul]; omega
              have e6 : (j + 1 + m) * l0.length = j * l0.length + l0.length + m * l0.length := by rw [Nat.add_mul, Nat.add_mul]; omega
              obtain ⟨i1, i2⟩ := ihm (j + 1) as bs (by omega) (by omega) (by rw [e5]; exact fa.right) (by rw [e5]; exact fb.right)
              rw [e5] at i1
              constructor
              · rw [List.range'_succ]
                simp only [Op.eqItems, Sem.run_bind, e1, e2, e3, Result.andThen_ok, eqV_append]
                cases he : eqV l0 as bs (j * l0.length) with
                | false => simp
                | true => simpa using i1
              · intro E
                rw [List.range'_succ]
                have hsz : (sizeOf e).run P w = .ok l0.length w := by simp [sizeOf, typeInfo, g1]; exact hs1
                simp only [List.forIn_cons, Sem.run_bind, hsz, e1, e4 E, Result.andThen_ok, Sem.run_pure]
                exact i2 E
          obtain ⟨k1, k2⟩ := items n 0 (xs.extract off (off + n * l0.length)) (ys.extract off (off + n * l0.length)) (by simp; omega) (by simp; omega) (by simpa using fit hx fx) (by simpa using fit hy fy)
          refine ⟨_, _, px, py, ?_, fun E => ?_⟩
          · rw [← Nat.add_assoc, run_equalIn_array w (D + d) _ _ hu g1, hc, List.range_eq_range', k1]
            congr 1
            refine eqV_congr _ _ _ _ _ _ _ fun j hj => ?_
            rw [hlen] at hj
            rw [Nat.zero_mul, Nat.zero_add, getD_extract _ _ _ _ hj hx, getD_extract _ _ _ _ hj hy]
            exact ⟨rfl, rfl⟩
          · rw [← Nat.add_assoc]
            simp only [Instr.checkKey, Sem.run_bind, run_underlying hu, Result.andThen_ok]
            simp only [Std.Legacy.Range.forIn_eq_forIn_range', Std.Legacy.Range.size, Nat.sub_zero, Nat.add_one_sub_one, Nat.div_one]
            have := k2 E
            rw [this]
            rfl
        · simp at h
      · simp at h
    · simp at h

end
end Go.Ax
