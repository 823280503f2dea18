/- Abstract execution, part Lb: more operations: values of many parts compared, nil of an interface, bytes as a string, the lesser and the greater, a string's code points, maps. -/
import Derived.Test.YtjokajidcojlmaaDoorAxLa
import Derived.Laws.BytesString
import Derived.Laws.RangeString
import Derived.Laws.Small
namespace Go.Ax

theorem hasAll_at {a : List D} : ∀ {l : List TK} {i : Nat}, AllL (hasAll l a i) → ∀ (j : Nat) (k : TK), l[j]? = some k → has k 0 (a.getD (i + j) (.v undef))
  | [], i, _, j, k, h => by simp at h
  | k0 :: l, i, hc, 0, k, h => by simp at h; subst h; exact hc.1
  | k0 :: l, i, hc, j + 1, k, h => by
    have := hasAll_at (l := l) (i := i + 1) hc.2 j k (by simpa using h)
    rw [show i + (j + 1) = i + 1 + j by omega]; exact this

theorem cell_of_has {h : Nat → Option Obj} {Im : Nat → Prop} {k : TK} {v : Value} {x : D} (hk : isPlain k = true) (hh : has k 0 x) (H : RD h Im v x) : cellOk k v ∧ x = .v v := by
  cases k <;> simp only [isPlain, Bool.false_eq_true] at hk
  · obtain ⟨n, rfl⟩ := hh; have := H.bool; subst this; exact ⟨⟨n, rfl⟩, rfl⟩
  · obtain ⟨n, rfl⟩ := hh; have := H.bool; subst this; exact ⟨⟨n, rfl⟩, rfl⟩
  · obtain ⟨n, rfl⟩ := hh; have := H.bool; subst this; exact ⟨⟨n, rfl⟩, rfl⟩

theorem cellEq_sc {k : TK} {v u : Value} (hv : cellOk k v) (hu : cellOk k u) : cellEq v u = scEq k (.v v) (.v u) := by
  cases k <;> simp only [cellOk] at hv hu
  · obtain ⟨n, rfl⟩ := hv; obtain ⟨m, rfl⟩ := hu; rfl
  · obtain ⟨n, rfl⟩ := hv; obtain ⟨m, rfl⟩ := hu; rfl
  · obtain ⟨n, rfl⟩ := hv; obtain ⟨m, rfl⟩ := hu; rfl

/-- Cells that are known. -/
def KnownC (h : Nat → Option Obj) (Im : Nat → Prop) (xs : Array Value) (a : List D) : Prop := xs.size = a.length ∧ ∀ (i : Nat) (v : Value) (x : D), xs[i]? = some v → a[i]? = some x → RD h Im v x

theorem KnownC.at {h : Nat → Option Obj} {Im : Nat → Prop} {xs : Array Value} {a : List D} (H : KnownC h Im xs a) {i : Nat} (hi : i < a.length) : RD h Im (xs.getD i undef) (a.getD i (.v undef)) := by
  have h1 : i < xs.size := by rw [H.1]; exact hi
  exact H.2 i _ _ (by simp [Array.getD, h1]) (by simp [List.getD, List.getElem?_eq_getElem hi])

theorem flatFs_plain {go : TypeId → Option (List TK)} (hgo : ∀ t l, go t = some l → l.all isPlain = true) : ∀ (fs : List Field) (off : Nat) (l : List TK), flatFs go off fs = some l → l.all isPlain = true
  | [], off, l, h => by simp only [flatFs] at h; injection h with h; subst h; rfl
  | f :: fs, off, l, h => by
    simp only [flatFs] at h
    split at h
    · rename_i l1 h1 h2 h3
      split at h
      · rename_i r hr
        injection h with h; subst h
        rw [List.all_append, hgo _ _ h3, flatFs_plain hgo fs _ _ hr]; rfl
      · simp at h
    · simp at h
theorem flat_plain {P : Program} : ∀ (d : Nat) (t : TypeId) (l : List TK), flatL P d t = some l → l.all isPlain = true := by
  intro d
  induction d with
  | zero => intro t l h; simp [flatL] at h
  | succ d ih =>
    intro t l h
    unfold flatL at h
    split at h
    · split at h
      · injection h with h; subst h; rfl
      · simp at h
    · split at h
      · injection h with h; subst h; rfl
      · simp at h
    · split at h
      · injection h with h; subst h; rfl
      · simp at h
    · split at h
      · rename_i l0 hst hfs
        split at h
        · injection h with h; subst h; exact flatFs_plain ih _ _ _ hfs
        · simp at h
      · simp at h
    · split at h
      · rename_i l0 ei hl0 hei
        split at h
        · rename_i n e _ _ _ _ _
          injection h with h; subst h
          have h0 := ih _ _ hl0
          rw [List.all_eq_true] at h0 ⊢
          intro x hx
          obtain ⟨y, hy, hxy⟩ := List.mem_flatten.1 hx
          rw [(List.mem_replicate.1 hy).2] at hxy
          exact h0 x hxy
        · simp at h
      · simp at h
    · simp at h

theorem known_fits {h : Nat → Option Obj} {Im : Nat → Prop} {xs : Array Value} {a : List D} {l : List TK} (hp : l.all isPlain = true) (H : KnownC h Im xs a) (hl : a.length = l.length) (hc : AllL (hasAll l a 0)) : FitsV l xs 0 := fun j k hj => by
  have hjl := (List.getElem?_eq_some_iff.1 hj).1
  have hk : isPlain k = true := List.all_eq_true.1 hp k (List.mem_of_getElem? hj)
  have := hasAll_at hc j k hj
  rw [Nat.zero_add] at this ⊢
  exact (cell_of_has hk this (H.at (by omega))).1
theorem known_eq {h : Nat → Option Obj} {Im : Nat → Prop} {xs ys : Array Value} {a b : List D} (HX : KnownC h Im xs a) (HY : KnownC h Im ys b) : ∀ (l : List TK) (i : Nat), l.all isPlain = true → i + l.length ≤ a.length → i + l.length ≤ b.length → AllL (hasAll l a i) → AllL (hasAll l b i) → eqV l xs ys i = eqAll l a b i
  | [], i, _, _, _, _, _ => rfl
  | k :: l, i, hp, ha, hb, ca, cb => by
    simp only [List.all_cons, Bool.and_eq_true] at hp
    simp only [List.length_cons] at ha hb
    obtain ⟨x1, x2⟩ := cell_of_has hp.1 ca.1 (HX.at (i := i) (by omega))
    obtain ⟨y1, y2⟩ := cell_of_has hp.1 cb.1 (HY.at (i := i) (by omega))
    simp only [eqV, eqAll]
    rw [known_eq HX HY l (i + 1) hp.2 (by omega) (by omega) ca.2 cb.2, cellEq_sc x1 y1, ← x2, ← y2]

theorem flOf_spec {P : Program} {t : TypeId} {i : TI} (hi : tiOf P t = some i) (h : i.fl ≠ []) : flatL P 12 t = some i.fl ∧ P.eqGuardType P.depth t = false := by
  obtain ⟨_, _, _, _, _, _, rfl⟩ := tiOf_spec hi
  simp only [flOf] at h ⊢
  split at h
  · rename_i l h1 h2 _; rw [h1, h2]; exact ⟨rfl, rfl⟩
  · simp at h
theorem flOf_bare {P : Program} {t : TypeId} {i : TI} (hi : tiOf P t = some i) (h : i.fl ≠ []) : bareZero P t = true := by
  obtain ⟨_, _, _, _, _, _, rfl⟩ := tiOf_spec hi
  simp only [flOf] at h
  split at h
  · rename_i h3; exact h3
  · simp at h

/-- Two plain values of a type, compared. -/
theorem run_equal_flat {P : Program} (w : World) {t : TypeId} {i : TI} (hi : tiOf P t = some i) (hne : i.fl ≠ []) (ha : i.k.agg = true) (hsz : i.size = i.fl.length) {Im : Nat → Prop} {xs ys : Array Value} {a b : List D} (HX : KnownC (hp w) Im xs a) (HY : KnownC (hp w) Im ys b)
    (hla : a.length = i.fl.length) (hlb : b.length = i.fl.length) (ca : AllL (hasAll i.fl a 0)) (cb : AllL (hasAll i.fl b 0)) :
    (Op.equalIn 10000 t (.agg xs) (.agg ys)).run P w = .ok (eqAll i.fl a b 0) w ∧ ∀ E, (Instr.checkKey E 10000 t (.agg xs)).run P w = .ok () w := by
  obtain ⟨h1, _⟩ := flOf_spec hi hne
  have hpl := flat_plain _ _ _ h1
  have hx : xs.size = i.fl.length := by rw [HX.1, hla]
  have hy : ys.size = i.fl.length := by rw [HY.1, hlb]
  obtain ⟨u, v, e1, e2, e3, e4⟩ := flat_ok w 12 t i.fl h1 xs ys 0 9988 (by omega) (by omega) (known_fits hpl HX hla ca) (known_fits hpl HY hlb cb)
  have px := run_part (w := w) hi (fun h => by rw [ha] at h; simp at h) (cs := xs) (off := 0) (by omega)
  have py := run_part (w := w) hi (fun h => by rw [ha] at h; simp at h) (cs := ys) (off := 0) (by omega)
  rw [ha, if_pos rfl] at px py
  rw [px] at e1; injection e1 with e1
  rw [py] at e2; injection e2 with e2
  have ex : xs.extract 0 (0 + i.size) = xs := by rw [Nat.zero_add, hsz, ← hx]; simp
  have ey : ys.extract 0 (0 + i.size) = ys := by rw [Nat.zero_add, hsz, ← hy]; simp
  rw [ex] at e1; rw [ey] at e2
  subst e1; subst e2
  exact ⟨by rw [e3, known_eq HX HY _ 0 hpl (by omega) (by omega) ca cb], e4⟩

section ops
variable {E : Env} {k : Kn} {ty : TypeId} {s : St} {tab : List (Nat × TI)} {e : Eff}

theorem ok_aggeq {op : BinOp} {xt yt : TypeId} {x y : Operand} {a b : List D} {i : TI} {r : Bool} (hi : opIn k.nt (.binOp op xt x y yt) = true) (ht : tiOf E.P xt = some i) (hne : i.fl ≠ []) (hag : i.k.agg = true) (hsz : i.size = i.fl.length)
    (hx : evO s x = .dagg a) (hy : evO s y = .dagg b) (h : (op = .eql ∧ r = eqAll i.fl a b 0) ∨ (op = .neq ∧ r = !eqAll i.fl a b 0)) : OpOk E k (.binOp op xt x y yt) ty s { val := .d (.v (.bool r)), cond := [a.length = i.fl.length, b.length = i.fl.length] ++ (hasAll i.fl a 0 ++ hasAll i.fl b 0) } := by
  refine .pure _ none fun hc c Im ρ F H ac w o _ hn S ho _ hF _ => ?_
  obtain ⟨hc1, hc2⟩ := AllL_append hc
  obtain ⟨ca, cb⟩ := AllL_append hc2
  obtain ⟨hla, hlb, _⟩ := hc1
  have h1 := opIn_ev (x := x) S hn hi hF (by simp [Op.operands])
  have h2 := opIn_ev (x := y) S hn hi hF (by simp [Op.operands])
  rw [hx] at h1
  rw [hy] at h2
  generalize hv : ac.eval x = v at h1
  generalize hu : ac.eval y = u at h2
  cases h1 with
  | dagg xs _ l1 r1 =>
    cases h2 with
    | dagg ys _ l2 r2 =>
      obtain ⟨q1, _⟩ := run_equal_flat w ht hne hag hsz ⟨l1, r1⟩ ⟨l2, r2⟩ hla hlb ca cb
      obtain ⟨_, hg⟩ := flOf_spec ht hne
      refine ⟨.bool r, ?_, RA.intv _ rfl⟩
      rcases h with ⟨rfl, rfl⟩ | ⟨rfl, rfl⟩
      · simp [execOp, ho, hv, hu, run_eqGuard_agg w .eql xt x y xs ys hg, run_eql_struct, q1]
      · simp [execOp, ho, hv, hu, run_eqGuard_agg w .neq xt x y xs ys hg, run_neq_struct, q1]

theorem equalIn_nil_nil {P : Program} {w : World} (d : Nat) {t : TypeId} {ms : Array (String × TypeId)} (hu : P.underlying t = some (.interface ms)) : (Op.equalIn (d + 1) t .nilIface .nilIface).run P w = .ok true w := by
  simp [Op.equalIn, run_underlying hu]
theorem equalIn_ifc_nil {P : Program} {w : World} (d : Nat) {t u : TypeId} {v : Value} {ms : Array (String × TypeId)} (hu : P.underlying t = some (.interface ms)) : (Op.equalIn (d + 1) t (.iface u v) .nilIface).run P w = .ok false w := by
  simp [Op.equalIn, run_underlying hu]
/-- Is it nil? -/
def ifNil : AV → Option Bool
  | .d (.v .nilIface) => some true
  | .ifc _ _ => some false
  | _ => none
theorem ok_ifnil {op : BinOp} {xt yt : TypeId} {x : Operand} {i : TI} {b r : Bool} (hi : opIn k.nt (.binOp op xt x (.const .nilIface) yt) = true) (ht : tiOf E.P xt = some i) (hk : i.k = .iface) (hx : ifNil (evO s x) = some b)
    (h : (op = .eql ∧ r = b) ∨ (op = .neq ∧ r = !b)) : OpOk E k (.binOp op xt x (.const .nilIface) yt) ty s { val := .d (.v (.bool r)) } := by
  refine .pure [] none fun hc c Im ρ F H ac w o _ hn S ho _ hF _ => ?_
  have h1 := opIn_ev (x := x) S hn hi hF (by simp [Op.operands])
  obtain ⟨inf, d, z, g1, g2, g3, rfl⟩ := tiOf_spec ht
  cases d <;> simp only [kindOf] at hk <;> cases hk
  rename_i ms
  refine ⟨.bool r, ?_, RA.intv _ rfl⟩
  generalize hv : ac.eval x = v at h1
  have hc2 : ac.eval (.const .nilIface) = .nilIface := rfl
  unfold ifNil at hx
  split at hx
  · rename_i he
    rw [he] at h1
    injection hx with hx; subst hx
    have := h1.v; subst this
    have q : (Op.equal xt .nilIface .nilIface).run E.P w = .ok true w := equalIn_nil_nil 9999 g2
    rcases h with ⟨rfl, rfl⟩ | ⟨rfl, rfl⟩
    · simp [execOp, ho, hv, hc2, eqGuard, binOp, q]
    · simp [execOp, ho, hv, hc2, eqGuard, binOp, q]
  · rename_i t' y' he
    rw [he] at h1
    injection hx with hx; subst hx
    cases h1 with
    | ifc _ u _ _ =>
      have q : (Op.equal xt (.iface t' u) .nilIface).run E.P w = .ok false w := equalIn_ifc_nil 9999 g2
      rcases h with ⟨rfl, rfl⟩ | ⟨rfl, rfl⟩
      · simp [execOp, ho, hv, hc2, eqGuard, binOp, q]
      · simp [execOp, ho, hv, hc2, eqGuard, binOp, q]
  · simp at hx

/-- Bytes of data. -/
def bytesOf (els : List (List D)) : ByteArray := (els.map fun q => (q.getD 0 (.v undef)).int).foldl (fun r n => r.push (UInt8.ofNat n.toNat)) ByteArray.empty
theorem ok_convert_bytes {src dst e0 : TypeId} {x : Operand} {si di ei : TI} {tight : Bool} {els : List (List D)} (hi : opIn k.nt (.convert src dst x) = true) (hs : tiOf E.P src = some si) (hsk : si.k = .slice e0) (he : tiOf E.P e0 = some ei) (hek : ei.k = .int .u8)
    (hd : tiOf E.P dst = some di) (hdk : di.k = .str) (hx : evO s x = .d (.sl tight 1 els)) : OpOk E k (.convert src dst x) ty s { val := .d (.v (.string (bytesOf els))), cond := [∀ q ∈ els, ∃ n, q = [.v (.int .u8 n)]] } := by
  refine .pure _ none fun hc c Im ρ F H ac w o _ hn S ho _ hF _ => ?_
  have h1 := opIn_ev (x := x) S hn hi hF (by simp [Op.operands])
  rw [hx] at h1
  obtain ⟨_, d, _, _, g2, _, rfl⟩ := tiOf_spec hs
  cases d <;> simp only [kindOf] at hsk <;> cases hsk
  obtain ⟨_, d, _, _, g3, _, rfl⟩ := tiOf_spec he
  cases d <;> simp only [kindOf] at hek <;> cases hek
  obtain ⟨_, d, _, _, g4, _, rfl⟩ := tiOf_spec hd
  cases d <;> simp only [kindOf] at hdk <;> cases hdk
  refine ⟨_, ?_, RA.intv _ rfl⟩
  generalize hv : ac.eval x = v at h1
  have hrd := h1.d_inv
  have key : (convert src dst v).run E.P w = .ok (.string (bytesOf els)) w := by
    cases hrd with
    | nil _ _ a cap _ =>
      rw [run_convert_bytes_string w src dst e0 a 0 cap g2 g3 g4]
      cases a with
      | none => simp [Conv.bytesToString, bytesOf]
      | some a => simp [Conv.bytesToString, bytesOf, loadCells, loadCellsFrom]
    | sl _ _ _ b o1 cap f hss hb hle _ hcc hr =>
      rw [run_convert_bytes_string w src dst e0 (some ⟨b, o1, none⟩) els.length cap g2 g3 g4]
      have hall : ∀ (j : Nat) (hj : j < els.length), ∃ n, els[j] = [.v (.int .u8 n)] := fun j hj => hc.1 _ (List.getElem_mem hj)
      rw [run_bytesToString w ⟨b, o1, none⟩ els.length cap (els.map fun q => (q.getD 0 (.v undef)).int)]
      · rfl
      · refine (run_loadCells_list w ⟨b, o1, none⟩ ((els.map fun q => (q.getD 0 (.v undef)).int).map (Value.int .u8)) (fun j v hj => ?_)) |>.trans ?_ |> fun h => by simpa using h
        · simp only [List.getElem?_map, Option.map_eq_some_iff] at hj
          obtain ⟨m, ⟨q, hq, rfl⟩, rfl⟩ := hj
          have hjl := (List.getElem?_eq_some_iff.1 hq).1
          obtain ⟨n, hn2⟩ := hall j hjl
          have hq2 : q = [.v (.int .u8 n)] := by rw [← hn2]; exact ((List.getElem?_eq_some_iff.1 hq).2).symm
          subst hq2
          have hcell := hcc j 0 _ _ hq rfl
          have hrd := hr j 0 _ _ hq rfl
          obtain ⟨ms, t, fz, e1, e2⟩ := hcell
          rw [add_zero_spot]
          have := cell_hp e1 e2
          rw [hrd.bool] at this
          simpa [D.int] using this
        · simp
  simp [execOp, ho, hv, key]

def isMinMax : Builtin → Option Bool
  | .min => some true
  | .max => some false
  | _ => none
def mmCall (b : Builtin) (x y : Operand) (t t' : TypeId) : Op := .call { callee := .builtin b, args := #[x, y], argTypes := #[t, t'] }
theorem ok_minmax {b : Builtin} {x y : Operand} {t t' : TypeId} {i j : IntKind} {m n r : Int} (hi : opIn k.nt (mmCall b x y t t') = true) (hx : evO s x = .d (.v (.int i m))) (hy : evO s y = .d (.v (.int j n)))
    (h : (b = .min ∧ r = if n < m then n else m) ∨ (b = .max ∧ r = if n > m then n else m)) : OpOk E k (mmCall b x y t t') ty s { val := .d (.v (.int i r)) } := by
  refine .pure _ none fun hc c Im ρ F H ac w o _ hn S ho _ hF _ => ?_
  have h1 := opIn_ev (x := x) S hn hi hF (by simp [mmCall, Op.operands, Call.operands])
  have h2 := opIn_ev (x := y) S hn hi hF (by simp [mmCall, Op.operands, Call.operands])
  rw [hx] at h1; rw [hy] at h2
  refine ⟨_, ?_, RA.intv _ rfl⟩
  rcases h with ⟨rfl, rfl⟩ | ⟨rfl, rfl⟩
  · simp [execOp, ho, mmCall, resolve, invoke, builtin, h1.v, h2.v, run_min_int2]
  · simp [execOp, ho, mmCall, resolve, invoke, builtin, h1.v, h2.v, run_max_int2]

theorem ok_range {t : TypeId} {x : Operand} {i : TI} {d : Nat} {m : ByteArray} (hi : opIn k.nt (.range t x) = true) (ht : tiOf E.P t = some i) (hk : i.k = .str) (hx : evO s x = .d (.v (.string m))) : OpOk E k (.range t x) ty s { val := .ptr d 0, wh := some (d, some (.siter m 0)), new := some d } := by
  intro c Im ρ F H a w o ok hn ha S ho hty hF hH hnew hc
  have h1 := opIn_ev (x := x) S hn hi hF (by simp [Op.operands])
  rw [hx] at h1
  obtain ⟨inf, ds, z, g1, g2, g3, rfl⟩ := tiOf_spec ht
  cases ds <;> simp only [kindOf] at hk <;> cases hk
  have hb : ∀ b ∈ ({ blk := some w.heap.size } : Loc).fp, w.heap.size ≤ b ∧ b < (w.iter m 0).heap.size := fun b hb => by
    simp [Loc.fp] at hb; subst hb; simp [World.iter]
  refine ⟨.pointer (some ⟨w.heap.size, 0, none⟩), w.iter m 0, .inl ?_, Im, _, S.new (r := d) (l := { blk := some w.heap.size }) (o := .siter m 0) (Grows.alloc w _) (hnew d rfl) hb ⟨rfl, rfl, w.heap.size, rfl, World.iter_heap w m 0⟩, .ptr _ d 0 rfl fun l hl => ?_⟩
  · simp [execOp, ho, h1.v, run_range_string w t m g2]
  · rw [upd_same] at hl; injection hl with hl; subst hl
    exact ⟨rfl, _, rfl, rfl⟩

def runeAt (m : ByteArray) (pos : Nat) : Nat := (Utf8.decode m pos).1
def runeW (m : ByteArray) (pos : Nat) : Nat := (Utf8.decode m pos).2

theorem ok_next_some {x : Operand} {r pos : Nat} {m : ByteArray} (hi : opIn k.nt (.next x true) = true) (hx : evO s x = .ptr r 0) : OpOk E k (.next x true) ty s
    { val := .tup [.d (.v (.bool true)), .d (.v (.int .i64 pos)), .d (.v (.int .i32 (runeAt m pos)))], rh := some (r, .siter m pos), wh := some (r, some (.siter m (pos + runeW m pos))), cond := [pos < m.size] } := by
  intro c Im ρ F H a w o ok hn ha S ho hty hF hH hnew hc
  have h1 := opIn_ev (x := x) S hn hi hF (by simp [Op.operands])
  rw [hx] at h1
  have hr := hH r _ rfl
  obtain ⟨l, hl, hro, hown⟩ := S.obj r _ hr
  obtain ⟨hb1, hb2, b, hb3, hb4⟩ := hro
  generalize hv : a.eval x = v at h1
  cases h1 with
  | ptr _ _ _ _ hp2 =>
    obtain ⟨_, b', e1, e2⟩ := hp2 l hl
    rw [hb3] at e1; injection e1 with e1; subst e1
    subst e2
    have hlt : b < w.heap.size := (hown b (by simp [Loc.fp, hb3])).1
    refine ⟨.tuple #[.bool true, .int .i64 pos, .int .i32 (runeAt m pos)], { w with heap := w.heap.setIfInBounds b (.stringIter m (pos + runeW m pos)) }, .inl ?_, Im, _, S.chg (r := r) (l := l) (l' := l) (o' := .siter m (pos + runeW m pos)) hr hl ?_ (.inl rfl) (fun b hb => .inl hb) ?_, ?_⟩
    · have hb5 : w.heap[b]? = some (.stringIter m pos) := hb4
      have hb6 := Array.getElem?_eq_some_iff.1 hb5
      simp only [execOp, ho, hv, Instr.next, getObj, setObj, Sem.run_bind, Sem.run, hb5, Result.andThen, hc.1, if_true]
      simp [goInt, runeAt, runeW]
    · refine ⟨by simp, rfl, rfl, rfl, fun b2 hb2 hn2 => ?_⟩
      have : b ≠ b2 := fun e => hn2 (by subst e; simp [Loc.fp, hb3])
      simp [Array.getElem?_setIfInBounds_ne this]
    · exact ⟨hb1, hb2, b, hb3, by simp [hp, hlt]⟩
    · refine .tup _ _ rfl fun i v y e1 e2 => ?_
      match i with
      | 0 => simp at e1 e2; subst e1; subst e2; exact RA.intv _ rfl
      | 1 => simp at e1 e2; subst e1; subst e2; exact RA.intv _ rfl
      | 2 => simp at e1 e2; subst e1; subst e2; exact RA.intv _ rfl
      | n + 3 => simp at e1

theorem ok_next_none {x : Operand} {r pos : Nat} {m : ByteArray} (hi : opIn k.nt (.next x true) = true) (hx : evO s x = .ptr r 0) : OpOk E k (.next x true) ty s
    { val := .tup [.d (.v (.bool false))], rh := some (r, .siter m pos), cond := [¬ pos < m.size] } :=
  .pure _ _ fun hc c Im ρ F H a w o ok hn S ho hty hF hH => by
  have h1 := opIn_ev (x := x) S hn hi hF (by simp [Op.operands])
  rw [hx] at h1
  have hr := hH r _ rfl
  obtain ⟨l, hl, hro, hown⟩ := S.obj r _ hr
  obtain ⟨hb1, hb2, b, hb3, hb4⟩ := hro
  generalize hv : a.eval x = v at h1
  cases h1 with
  | ptr _ _ _ _ hp2 =>
    obtain ⟨_, b', e1, e2⟩ := hp2 l hl
    rw [hb3] at e1; injection e1 with e1; subst e1
    subst e2
    have hb5 : w.heap[b]? = some (.stringIter m pos) := hb4
    refine ⟨.tuple #[.bool false], ?_, ?_⟩
    · simp [execOp, ho, hv, Instr.next, getObj, Sem.run, hb5, hc.1]
    · refine .tup _ _ rfl fun i v y e1 e2 => ?_
      match i with
      | 0 => simp at e1 e2; subst e1; subst e2; exact RA.intv _ rfl
      | n + 1 => simp at e1

end ops
end Go.Ax
