import Derived.Test.YtjokajidcojlmaaDoorEAxV

namespace Go.Ax
open Go.Proofs
set_option maxRecDepth 10000

abbrev PortT := Int × Int
def rowP (p : PortT) : List D := [.u16 p.1, .u16 p.2]
def rowL (l : PortT × PortT) : List D := [.u16 l.1.1, .u16 l.1.2, .u16 l.2.1, .u16 l.2.2]
def rowS (n : Int) : List D := [.u16 n]

theorem foldl_next {α β : Type} (f : β → α → β) (b : β) (l : List α) (i : Nat) (h : i < l.length) : (l.take (i + 1)).foldl f b = f ((l.take i).foldl f b) l[i] := by
  rw [List.take_succ_eq_append_getElem h, List.foldl_append]; rfl
theorem getD_map {α β : Type} (f : α → β) (l : List α) (i : Nat) (d : β) (h : i < l.length) : (l.map f).getD (i : Int).toNat d = f l[i] := by
  simp [List.getD, h]

theorem getD_map0 {α β : Type} (f : α → β) (l : List α) (i : Nat) (d : β) (h : i < l.length) : (l.map f).getD (0 + (i : Int).toNat) d = f l[i] := by
  simp [List.getD, h]

def eqP (p q : PortT) : Bool := p.1 == q.1 && (p.2 == q.2 && true)
def indexF : List PortT → PortT → Nat → Int
  | [], _, _ => -1
  | q :: l, p, i => if eqP p q then i else indexF l p (i + 1)
theorem indexF_drop (l : List PortT) (p : PortT) (i : Nat) (h : i < l.length) : indexF (l.drop i) p i = if eqP p l[i] then (i : Int) else indexF (l.drop (i + 1)) p (i + 1) := by
  rw [List.drop_eq_getElem_cons h]; rfl

theorem index_ctr (g : GP) (l : List PortT) (p : PortT) (hl : l.length < 2 ^ 62) : Ctr (ax g).E 137 [.d (.sl false 2 (l.map rowP)), .dagg (rowP p)] [] (fun o => o = .ret (.i64 (indexF l p 0)) []) := by
  refine Ctr.body (X := ax g) _ 19 [] [.tmp 4] Tryd.func137 rfl rfl rfl rfl (by decide +kernel) rfl rfl ?_
  conv => whnf
  refine LoopP.inv (X := ax g) (fun i : Nat => { f := [(0, .d (.sl false 2 (l.map rowP))), (3, .ptr 3 0), (7, .i64 l.length), (8, .i64 i)], h := [(3, some (.dvar 2 (rowP p)))] }) (fun i => i ≤ l.length ∧ indexF l p 0 = indexF (l.drop i) p i) (fun i => l.length - i) 0 ⟨by omega, rfl⟩ ⟨⟨rfl, rfl, AV.int_eq (by simp), rfl, trivial⟩, ⟨fun o h => h, trivial⟩⟩ fun i ⟨hi, he⟩ => ?_
  conv => whnf
  refine ifB_intro (fun h => ?_) (fun h => ?_)
  · conv => whnf
    have hlt : i < l.length := by simpa using h
    refine DrawP.intro (X := ax g) B137_4 (by kernel_rfl) (by decide +kernel) ?_
    conv => whnf
    refine And.intro (Nat.le_refl _) ?_
    conv => whnf
    refine And.intro (by omega) ?_
    refine And.intro (by simpa using hlt) ?_
    conv => whnf
    rw [getD_map rowP l i [] hlt]
    refine And.intro (Nat.le_refl _) ?_
    conv => whnf
    refine And.intro rfl ?_
    refine And.intro rfl ?_
    refine And.intro ⟨_, rfl⟩ ?_
    refine And.intro ⟨_, rfl⟩ ?_
    refine And.intro ⟨_, rfl⟩ ?_
    refine And.intro ⟨_, rfl⟩ ?_
    conv => whnf
    have hs := indexF_drop l p i hlt
    refine ifB_intro (fun h2 => ?_) (fun h2 => ?_)
    · conv => whnf
      refine ⟨⟨[], ?_⟩⟩
      conv => whnf
      have h2 : eqP p l[i] = true := h2
      rw [h2, if_pos rfl] at hs
      rw [he, hs]
    · conv => whnf
      have h2 : eqP p l[i] = false := h2
      rw [h2] at hs
      exact ⟨i + 1, ⟨by omega, by rw [he, hs]; rfl⟩, by omega, ⟨⟨rfl, rfl, rfl, AV.int_eq (i64_succ (by omega)), trivial⟩, ⟨fun o h => h, trivial⟩⟩⟩
  · conv => whnf
    refine ⟨⟨[], ?_⟩⟩
    conv => whnf
    have hge : l.length ≤ i := by simpa using h
    rw [he, List.drop_eq_nil_of_le hge]; rfl

def hostF (l : List PortT) (p : PortT) : Bool := decide (0 ≤ indexF l p 0)
theorem contains_ctr (g : GP) (l : List PortT) (p : PortT) (hl : l.length < 2 ^ 62) : Ctr (ax g).E 96 [.d (.sl false 2 (l.map rowP)), .dagg (rowP p)] [] (fun o => o = .ret (.bool (hostF l p)) []) := by
  refine Ctr.body (X := ax g) _ 9 [] [.tmp 4] Tryd.func96 rfl rfl rfl rfl (by decide +kernel) rfl rfl ?_
  conv => whnf
  refine And.intro (Nat.le_refl _) ?_
  conv => whnf
  refine CallP.det (index_ctr g l p hl) ?_
  conv => whnf
  refine ⟨⟨[], ?_⟩⟩
  conv => whnf
  rfl

structure TopoT where
  sw : List Int
  links : List (PortT × PortT)
  hosts : List PortT
def rowT (t : TopoT) : List D := [.sl false 1 (t.sw.map rowS), .sl false 4 (t.links.map rowL), .sl false 2 (t.hosts.map rowP)]

theorem host_ctr (g : GP) (t : TopoT) (p : PortT) (hl : t.hosts.length < 2 ^ 62) : Ctr (ax g).E 35 [.dagg (rowT t), .dagg (rowP p)] [] (fun o => o = .ret (.bool (hostF t.hosts p)) []) := by
  refine Ctr.body (X := ax g) _ 9 [] [.tmp 4] Tryd.func35 rfl rfl rfl rfl (by decide +kernel) rfl rfl ?_
  conv => whnf
  refine And.intro (by decide : 2 + 1 ≤ 3) ?_
  refine And.intro ⟨_, _, rfl⟩ ?_
  conv => whnf
  refine And.intro (Nat.le_refl _) ?_
  conv => whnf
  refine CallP.det (contains_ctr g t.hosts p hl) ?_
  conv => whnf
  refine ⟨⟨[], ?_⟩⟩
  conv => whnf

/-- The other end. -/
def otherF : List (PortT × PortT) → PortT → Option PortT
  | [], _ => none
  | l :: r, p => if eqP p l.1 then some l.2 else if eqP p l.2 then some l.1 else otherF r p
def rowO : Option PortT → List D
  | some p => rowP p
  | none => rowP (0, 0)
theorem otherF_drop (l : List (PortT × PortT)) (p : PortT) (i : Nat) (h : i < l.length) : otherF (l.drop i) p = if eqP p l[i].1 then some l[i].2 else if eqP p l[i].2 then some l[i].1 else otherF (l.drop (i + 1)) p := by
  rw [List.drop_eq_getElem_cons h]; rfl

theorem other_ctr (g : GP) (t : TopoT) (p : PortT) (hl : t.links.length < 2 ^ 62) : Ctr (ax g).E 34 [.dagg (rowT t), .dagg (rowP p)] [] (fun o => o = .ret (.tup [.dagg (rowO (otherF t.links p)), .bool (otherF t.links p).isSome]) []) := by
  refine Ctr.body (X := ax g) _ 30 [] [.cell 4 63, .tmp 5] Tryd.func34 rfl rfl rfl rfl (by decide +kernel) rfl rfl ?_
  conv => whnf
  refine And.intro (by decide : 1 + 1 ≤ 3) ?_
  refine And.intro ⟨_, _, rfl⟩ ?_
  conv => whnf
  refine LoopP.inv (X := ax g) (fun i : Nat => { f := [(3, .ptr 3 0), (4, .ptr 4 0), (5, .bool false), (9, .d (.sl false 4 (t.links.map rowL))), (10, .i64 t.links.length), (11, .i64 i)], h := [(3, some (.dvar 2 (rowP p))), (4, some (.dvar 2 (rowP (0, 0))))] }) (fun i => i ≤ t.links.length ∧ otherF t.links p = otherF (t.links.drop i) p) (fun i => t.links.length - i) 0 ⟨by omega, rfl⟩ ⟨⟨rfl, rfl, rfl, rfl, AV.int_eq (by simp []), rfl, trivial⟩, ⟨fun o h => h, fun o h => h, trivial⟩⟩ fun i ⟨hi, he⟩ => ?_
  conv => whnf
  refine ifB_intro (fun h => ?_) (fun h => ?_)
  · have hlt : i < t.links.length := by simpa using h
    have hs := otherF_drop t.links p i hlt
    conv => whnf
    refine And.intro (by omega) ?_
    refine And.intro (by simpa using hlt) ?_
    conv => whnf
    rw [getD_map rowL t.links i [] hlt]
    refine And.intro (Nat.le_refl _) ?_
    conv => whnf
    repeat (refine And.intro (by first | exact rfl | decide | exact Nat.le_of_ble_eq_true rfl | exact ⟨_, rfl⟩) ?_; conv => whnf)
    refine ifB_intro (fun h2 => ?_) (fun h2 => ?_)
    · have h2 : eqP p t.links[i].1 = true := h2
      rw [h2, if_pos rfl] at hs
      conv => whnf
      repeat (refine And.intro (by first | exact rfl | decide | exact Nat.le_of_ble_eq_true rfl | exact ⟨_, rfl⟩) ?_; conv => whnf)
      refine ⟨⟨[], ?_⟩⟩
      conv => whnf
      repeat (refine And.intro (by first | exact rfl | decide | exact Nat.le_of_ble_eq_true rfl | exact ⟨_, rfl⟩) ?_; conv => whnf)
      rw [he, hs]; rfl
    · have h2 : eqP p t.links[i].1 = false := h2
      rw [h2] at hs
      conv => whnf
      repeat (refine And.intro (by first | exact rfl | decide | exact Nat.le_of_ble_eq_true rfl | exact ⟨_, rfl⟩) ?_; conv => whnf)
      refine ifB_intro (fun h3 => ?_) (fun h3 => ?_)
      · have h3 : eqP p t.links[i].2 = true := h3
        rw [h3] at hs
        conv => whnf
        repeat (refine And.intro (by first | exact rfl | decide | exact Nat.le_of_ble_eq_true rfl | exact ⟨_, rfl⟩) ?_; conv => whnf)
        refine ⟨⟨[], ?_⟩⟩
        conv => whnf
        repeat (refine And.intro (by first | exact rfl | decide | exact Nat.le_of_ble_eq_true rfl | exact ⟨_, rfl⟩) ?_; conv => whnf)
        rw [he, hs]; rfl
      · have h3 : eqP p t.links[i].2 = false := h3
        rw [h3] at hs
        conv => whnf
        exact ⟨i + 1, ⟨by omega, by rw [he, hs]; rfl⟩, by omega, ⟨⟨rfl, rfl, rfl, rfl, rfl, AV.int_eq (i64_succ (by omega)), trivial⟩, ⟨fun o h => h, fun o h => h, trivial⟩⟩⟩
  · conv => whnf
    refine And.intro trivial ?_
    conv => whnf
    repeat (refine And.intro (by first | exact rfl | decide | exact Nat.le_of_ble_eq_true rfl | exact ⟨_, rfl⟩) ?_; conv => whnf)
    refine ⟨⟨[], ?_⟩⟩
    conv => whnf
    repeat (refine And.intro (by first | exact rfl | decide | exact Nat.le_of_ble_eq_true rfl | exact ⟨_, rfl⟩) ?_; conv => whnf)
    have hge : t.links.length ≤ i := by simpa using h
    rw [he, List.drop_eq_nil_of_le hge]; rfl

theorem clone_ctr0 (g : GP) (l : List PortT) (hl : l.length < 2 ^ 40) : Ctr (ax g).E 93 [.d (.sl false 2 (l.map rowP))] [] (fun o => o = .ret (.msl 7 l.length 0 l.length) [(7, some (.buf 2 63 (l.map rowP)))] ∨ (l.map rowP = [] ∧ l.length = 0 ∧ o = .ret (.d (.v (.slice none 0 0))) [])) := by
  refine Ctr.body (X := ax g) _ 8 [] [.tmp 2] Tryd.func93 rfl rfl rfl rfl (by decide +kernel) rfl rfl ?_
  conv => whnf
  intro b hb
  conv => whnf
  refine ifB_intro (fun h => ?_) (fun h => ?_)
  · conv => whnf
    refine ⟨⟨[], ?_⟩⟩
    conv => whnf
    exact .inr ⟨hb h, by simpa using hb h, rfl⟩
  · conv => whnf
    refine And.intro (by simp; omega) ?_
    conv => whnf
    refine ⟨⟨[(7, some (.buf 2 63 (l.map rowP)))], ?_⟩⟩
    conv => whnf
    refine And.intro ⟨fun o h => h, trivial⟩ ?_
    exact .inl (by simp)

theorem clone_ctr (g : GP) (l : List PortT) (hl : l.length < 2 ^ 40) : Ctr (ax g).E 93 [.d (.sl false 2 (l.map rowP))] [] (fun o => o = .ret (.msl 7 l.length 0 l.length) [(7, some (.buf 2 63 (l.map rowP)))]) := .nilOwn 7 _ 2 63 _ (clone_ctr0 g l hl)

def kS : List TK := [.int .u16]
def kP : List TK := [.int .u16, .int .u16]
def swMap (l : List Int) : List (List D × D) := l.foldl (fun es n => mput kS (rowS n) (.v (.bool true)) es) []
def allP (t : TopoT) : List PortT := t.hosts ++ t.links.flatMap fun l => [l.1, l.2]
/-- Hosts' ports, and the ends of the first so many links. -/
def allN (t : TopoT) (i : Nat) : List PortT := t.hosts ++ (t.links.take i).flatMap fun l => [l.1, l.2]
theorem allN_succ (t : TopoT) (i : Nat) (h : i < t.links.length) : allN t (i + 1) = allN t i ++ [t.links[i].1, t.links[i].2] := by
  rw [allN, allN, List.take_succ_eq_append_getElem h, List.flatMap_append]; simp
theorem allN_length (t : TopoT) (i : Nat) (hh : t.hosts.length ≤ 24) (hl : t.links.length ≤ 24) : (allN t i).length ≤ 24 + 2 * 24 := by
  have : ∀ l : List (PortT × PortT), (l.flatMap fun l => [l.1, l.2]).length = 2 * l.length := by
    intro l
    induction l with
    | nil => rfl
    | cons x l ih => simp [List.flatMap_cons, ih]; omega
  rw [allN, List.length_append, this, List.length_take]; omega
def scanF (m : List (List D × D)) : List PortT → List (List D × D) → Option (List (List D × D))
  | [], es => some es
  | p :: r, es => if (mget kS (rowS p.1) (.v (.bool false)) m).bool then scanF m r (mput kP (rowP p) (.v (.bool true)) es) else none
def checkF (t : TopoT) : Int :=
  if 12 < t.sw.length ∨ 24 < t.links.length ∨ 24 < t.hosts.length then 2 else
  match scanF (swMap t.sw) (allP t) [] with
  | none => 12
  | some es => if (swMap t.sw).length < t.sw.length then 12 else if es.length < (allP t).length then 11 else 0

theorem swMap_take (l : List Int) (i : Nat) (h : i < l.length) : swMap (l.take (i + 1)) = mput kS (rowS l[i]) (.v (.bool true)) (swMap (l.take i)) := by
  rw [List.take_succ_eq_append_getElem h, swMap, List.foldl_append]; rfl

/-- Keys that are rows of numbers. -/
def SKeys (es : List (List D × D)) : Prop := ∀ e ∈ es, (∃ n, e.1 = rowS n) ∧ e.2 = .v (.bool true)
def PKeys (es : List (List D × D)) : Prop := ∀ e ∈ es, (∃ p, e.1 = rowP p) ∧ e.2 = .v (.bool true)
theorem mput_mem {l : List TK} {key : List D} {v : D} {es : List (List D × D)} {e : List D × D} (h : e ∈ mput l key v es) : e ∈ es ∨ e = (key, v) := by
  unfold mput at h
  split at h
  · rcases List.mem_or_eq_of_mem_set h with h | h
    · exact .inl h
    · exact .inr h
  · simpa using h
theorem SKeys.put {es : List (List D × D)} (h : SKeys es) (n : Int) : SKeys (mput kS (rowS n) (.v (.bool true)) es) := fun e he => by
  rcases mput_mem he with he | rfl
  · exact h e he
  · exact ⟨⟨n, rfl⟩, rfl⟩
theorem PKeys.put {es : List (List D × D)} (h : PKeys es) (p : PortT) : PKeys (mput kP (rowP p) (.v (.bool true)) es) := fun e he => by
  rcases mput_mem he with he | rfl
  · exact h e he
  · exact ⟨⟨p, rfl⟩, rfl⟩
theorem swMap_keys (l : List Int) : SKeys (swMap l) := by
  have : ∀ (l : List Int) (es : List (List D × D)), SKeys es → SKeys (l.foldl (fun es n => mput kS (rowS n) (.v (.bool true)) es) es) := by
    intro l
    induction l with
    | nil => exact fun es h => h
    | cons n l ih => exact fun es h => ih _ (h.put n)
  exact this l [] (fun e he => by simp at he)
theorem keyOk_S (n : Int) : KeyOk kS (rowS n) := ⟨rfl, ⟨n, rfl⟩, trivial⟩
theorem keyOk_P (p : PortT) : KeyOk kP (rowP p) := ⟨rfl, ⟨p.1, rfl⟩, ⟨p.2, rfl⟩, trivial⟩
theorem SKeys.ok {es : List (List D × D)} (h : SKeys es) : KeysOk kS es := fun e he => by
  obtain ⟨⟨n, hn⟩, _⟩ := h e he; rw [hn]; exact keyOk_S n
theorem PKeys.ok {es : List (List D × D)} (h : PKeys es) : KeysOk kP es := fun e he => by
  obtain ⟨⟨n, hn⟩, _⟩ := h e he; rw [hn]; exact keyOk_P n
theorem SKeys.get {es : List (List D × D)} (h : SKeys es) (n : Int) : has .bool 0 (mget kS (rowS n) (.v (.bool false)) es) := by
  unfold mget
  split
  · rename_i i hi
    have := (mfind_lt hi).2
    simp only [List.getD, List.getElem?_eq_getElem (show i < es.length by omega), Option.getD_some]
    exact ⟨true, (h _ (List.getElem_mem (show i < es.length by omega))).2⟩
  · exact ⟨false, rfl⟩

theorem scanF_drop (m : List (List D × D)) (l : List PortT) (i : Nat) (es : List (List D × D)) (h : i < l.length) : scanF m (l.drop i) es = if (mget kS (rowS l[i].1) (.v (.bool false)) m).bool then scanF m (l.drop (i + 1)) (mput kP (rowP l[i]) (.v (.bool true)) es) else none := by
  rw [List.drop_eq_getElem_cons h]; rfl

set_option maxHeartbeats 1000000 in
theorem check_ctr (g : GP) (t : TopoT) : Ctr (ax g).E 30 [.dagg (rowT t)] [] (fun o => o = .ret (.i64 (checkF t)) []) := by
  refine Ctr.body (X := ax g) _ 81 [] [.tmp 2] Tryd.func30 rfl rfl rfl rfl (by decide +kernel) rfl rfl ?_
  conv => whnf
  repeat (refine And.intro (by first | exact rfl | decide | exact Nat.le_of_ble_eq_true rfl | exact ⟨_, rfl⟩ | exact ⟨_, _, rfl⟩) ?_; conv => whnf)
  have main : ¬ (12 < t.sw.length ∨ 24 < t.links.length ∨ 24 < t.hosts.length) → True := fun _ => trivial
  refine ifB_intro (fun h => ?_) (fun h => ?_)
  · rw [h]
    have h : 12 < t.sw.length := by have := h; simp [] at this; omega
    conv => whnf
    refine ⟨⟨[], ?_⟩⟩
    conv => whnf
    simp [checkF, h]
  · rw [h]
    have h : ¬ 12 < t.sw.length := by have := h; simp [] at this; omega
    conv => whnf
    repeat (refine And.intro (by first | exact rfl | decide | exact Nat.le_of_ble_eq_true rfl | exact ⟨_, rfl⟩ | exact ⟨_, _, rfl⟩) ?_; conv => whnf)
    refine ifB_intro (fun h2 => ?_) (fun h2 => ?_)
    · rw [h2]
      have h2 : 24 < t.links.length := by have := h2; simp [] at this; omega
      conv => whnf
      refine ⟨⟨[], ?_⟩⟩
      conv => whnf
      simp [checkF, h2]
    · rw [h2]
      have h2 : ¬ 24 < t.links.length := by have := h2; simp [] at this; omega
      conv => whnf
      repeat (refine And.intro (by first | exact rfl | decide | exact Nat.le_of_ble_eq_true rfl | exact ⟨_, rfl⟩ | exact ⟨_, _, rfl⟩) ?_; conv => whnf)
      refine ifB_intro (fun h3 => ?_) (fun h3 => ?_)
      · have h3 : 24 < t.hosts.length := by have := h3; simp [] at this; omega
        conv => whnf
        refine ⟨⟨[], ?_⟩⟩
        conv => whnf
        simp [checkF, h3]
      · have h3 : ¬ 24 < t.hosts.length := by have := h3; simp [] at this; omega
        conv => whnf
        repeat (refine And.intro (by first | exact rfl | decide | exact Nat.le_of_ble_eq_true rfl | exact ⟨_, rfl⟩ | exact ⟨_, _, rfl⟩) ?_; conv => whnf)
        refine LoopP.inv (X := ax g) (fun i : Nat => { f := [(1, .ptr 1 0), (2, .i64 0), (3, .mp 28), (30, .d (.sl false 1 (t.sw.map rowS))), (31, .i64 t.sw.length), (32, .i64 i)], h := [(28, some (.map false (swMap (t.sw.take i)))), (1, some (.dvar 3 (rowT t)))] }) (fun i => i ≤ t.sw.length) (fun i => t.sw.length - i) 0 (by omega) ⟨⟨rfl, rfl, rfl, rfl, AV.int_eq (by simp []), rfl, trivial⟩, ⟨fun o h => h, fun o h => h, trivial⟩⟩ fun i hi => ?_
        conv => whnf
        refine ifB_intro (fun h4 => ?_) (fun h4 => ?_)
        · have hlt : i < t.sw.length := by simpa using h4
          conv => whnf
          refine And.intro (by omega) ?_
          refine And.intro (by simpa using hlt) ?_
          conv => whnf
          rw [getD_map rowS t.sw i [] hlt]
          repeat (refine And.intro (by first | exact rfl | decide | exact Nat.le_of_ble_eq_true rfl | exact ⟨_, rfl⟩ | exact ⟨_, _, rfl⟩) ?_; conv => whnf)
          refine And.intro (keyOk_S _) ?_
          refine And.intro (swMap_keys _).ok ?_
          conv => whnf
          exact ⟨i + 1, by omega, by omega, ⟨⟨rfl, rfl, rfl, rfl, rfl, AV.int_eq (i64_succ (by omega)), trivial⟩, ⟨fun o h => by rw [swMap_take _ _ hlt] at h; exact h, fun o h => h, trivial⟩⟩⟩
        · have hge : i = t.sw.length := Nat.le_antisymm hi (by simpa using h4)
          subst hge
          rw [List.take_length]
          conv => whnf
          repeat (refine And.intro (by first | exact rfl | decide | exact Nat.le_of_ble_eq_true rfl | exact ⟨_, rfl⟩ | exact ⟨_, _, rfl⟩) ?_; conv => whnf)
          refine CallP.makes rfl (clone_ctr g t.hosts (by omega)) ?_
          conv => whnf
          repeat (refine And.intro (by first | exact rfl | decide | exact Nat.le_of_ble_eq_true rfl | exact ⟨_, rfl⟩ | exact ⟨_, _, rfl⟩) ?_; conv => whnf)
          refine LoopP.inv (X := ax g) (fun i : Nat => { f := [(1, .ptr 1 0), (2, .i64 0), (3, .mp 28), (6, .msl 7 (allN t i).length 0 (allN t i).length), (43, .d (.sl false 4 (t.links.map rowL))), (44, .i64 t.links.length), (45, .i64 i)], h := [(7, some (.buf 2 63 ((allN t i).map rowP))), (28, some (.map false (swMap t.sw))), (1, some (.dvar 3 (rowT t)))] }) (fun i => i ≤ t.links.length) (fun i => t.links.length - i) 0 (by omega) ⟨⟨rfl, rfl, rfl, by simp [lk, allN], rfl, AV.int_eq (by simp []), rfl, trivial⟩, ⟨fun o h => by simpa [lkH, allN] using h, fun o h => h, fun o h => h, trivial⟩⟩ fun i hi => ?_
          conv => whnf
          refine ifB_intro (fun h5 => ?_) (fun h5 => ?_)
          · have hlt : i < t.links.length := by simpa using h5
            conv => whnf
            refine And.intro (by omega) ?_
            refine And.intro (by simpa using hlt) ?_
            conv => whnf
            rw [getD_map rowL t.links i [] hlt]
            repeat (refine And.intro (by first | exact rfl | decide | exact Nat.le_of_ble_eq_true rfl | exact ⟨_, rfl⟩ | exact ⟨_, _, rfl⟩) ?_; conv => whnf)
            have hsz : (allN t i).length ≤ 24 + 2 * 24 := allN_length t i (by omega) (by omega)
            refine And.intro (by simp) ?_
            refine And.intro rfl ?_
            refine And.intro (by simp [chunksD]; omega) ?_
            conv => whnf
            exact ⟨i + 1, by omega, by omega, ⟨⟨rfl, rfl, rfl, msl_eq (by rw [allN_succ t i hlt]; simp [chunksD]), rfl, rfl, AV.int_eq (i64_succ (by omega)), trivial⟩, ⟨fun o h => by rw [allN_succ t i hlt, List.map_append] at h; exact h, fun o h => h, fun o h => h, trivial⟩⟩⟩
          · have hge : i = t.links.length := Nat.le_antisymm hi (by simpa using h5)
            subst hge
            have hall : allN t t.links.length = allP t := by simp [allN, allP]
            have hsz : (allP t).length ≤ 24 + 2 * 24 := by rw [← hall]; exact allN_length t _ (by omega) (by omega)
            rw [hall]
            conv => whnf
            refine And.intro (by simp) ?_
            conv => whnf
            refine LoopP.inv (X := ax g) (fun x : Nat × List (List D × D) => { f := [(1, .ptr 1 0), (2, .i64 0), (3, .mp 28), (6, .msl 7 (allP t).length 0 (allP t).length), (9, .mp 53), (54, .msl 7 (allP t).length 0 (allP t).length), (55, .i64 (allP t).length), (56, .i64 x.1)], h := [(7, some (.buf 2 63 ((allP t).map rowP))), (28, some (.map false (swMap t.sw))), (53, some (.map true x.2)), (1, some (.dvar 3 (rowT t)))] })
              (fun x => x.1 ≤ (allP t).length ∧ PKeys x.2 ∧ scanF (swMap t.sw) (allP t) [] = scanF (swMap t.sw) ((allP t).drop x.1) x.2) (fun x => (allP t).length - x.1) (0, []) ⟨by simp, fun e he => by simp at he, rfl⟩ ⟨⟨rfl, rfl, rfl, rfl, rfl, rfl, rfl, rfl, trivial⟩, ⟨fun o h => h, fun o h => h, fun o h => h, fun o h => h, trivial⟩⟩ fun ⟨i, es⟩ ⟨hi, hk, he⟩ => ?_
            conv => whnf
            refine ifB_intro (fun h6 => ?_) (fun h6 => ?_)
            · have hlt : i < (allP t).length := by simpa using h6
              have hsc := scanF_drop (swMap t.sw) (allP t) i es hlt
              conv => whnf
              refine And.intro (by simp) ?_
              refine And.intro (by omega) ?_
              refine And.intro (by show (0 : Int) ≤ (i : Int); omega) ?_
              refine And.intro (by show (i : Int) < _; omega) ?_
              conv => whnf
              refine And.intro (by simp) ?_
              refine And.intro (by show 0 + (i : Int).toNat < _; simp; exact hlt) ?_
              conv => whnf
              rw [getD_map0 rowP (allP t) i [] hlt]
              repeat (refine And.intro (by first | exact rfl | decide | exact Nat.le_of_ble_eq_true rfl | exact ⟨_, rfl⟩ | exact ⟨_, _, rfl⟩) ?_; conv => whnf)
              refine And.intro (keyOk_S (allP t)[i].1) ?_
              refine And.intro (swMap_keys _).ok ?_
              refine And.intro ((swMap_keys _).get (allP t)[i].1) ?_
              conv => whnf
              refine ifB_intro (fun h7 => ?_) (fun h7 => ?_)
              · have h7 : (!(mget kS (rowS (allP t)[i].1) (.v (.bool false)) (swMap t.sw)).bool) = true := h7
                rw [Bool.not_eq_true'] at h7
                rw [h7] at hsc
                conv => whnf
                refine ⟨⟨[], ?_⟩⟩
                conv => whnf
                have hc : checkF t = 12 := by
                  rw [checkF, if_neg (by omega), he, hsc]; rfl
                rw [hc]
              · have h7 : (!(mget kS (rowS (allP t)[i].1) (.v (.bool false)) (swMap t.sw)).bool) = false := h7
                rw [Bool.not_eq_false'] at h7
                rw [h7, if_pos rfl] at hsc
                conv => whnf
                repeat (refine And.intro (by first | exact rfl | decide | exact Nat.le_of_ble_eq_true rfl | exact ⟨_, rfl⟩ | exact ⟨_, _, rfl⟩) ?_; conv => whnf)
                refine And.intro (keyOk_P (allP t)[i]) ?_
                refine And.intro hk.ok ?_
                conv => whnf
                exact ⟨(i + 1, mput kP (rowP (allP t)[i]) (.v (.bool true)) es), ⟨by show i + 1 ≤ _; omega, hk.put _, by rw [he, hsc]⟩, by show (allP t).length - (i + 1) < (allP t).length - i; omega, ⟨⟨rfl, rfl, rfl, rfl, rfl, rfl, rfl, AV.int_eq (i64_succ (by show i < _; omega)), trivial⟩, ⟨fun o h => h, fun o h => h, fun o h => h, fun o h => h, trivial⟩⟩⟩
            · have hge : (allP t).length ≤ i := by simpa using h6
              have he : scanF (swMap t.sw) (allP t) [] = some es := by rw [he, List.drop_eq_nil_of_le hge]; rfl
              have hc0 : checkF t = if (swMap t.sw).length < t.sw.length then 12 else if es.length < (allP t).length then 11 else 0 := by
                rw [checkF, if_neg (by omega), he]
              conv => whnf
              repeat (refine And.intro (by first | exact rfl | decide | exact Nat.le_of_ble_eq_true rfl | exact ⟨_, rfl⟩ | exact ⟨_, _, rfl⟩) ?_; conv => whnf)
              refine ifB_intro (fun h8 => ?_) (fun h8 => ?_)
              · have h8 : (swMap t.sw).length < t.sw.length := by have := h8; simp [] at this; omega
                rw [if_pos h8] at hc0
                conv => whnf
                refine ⟨⟨[], ?_⟩⟩
                conv => whnf
                rw [hc0]
              · have h8 : ¬ (swMap t.sw).length < t.sw.length := by have := h8; simp [] at this; omega
                rw [if_neg h8] at hc0
                conv => whnf
                refine And.intro (by simp) ?_
                conv => whnf
                refine ifB_intro (fun h9 => ?_) (fun h9 => ?_)
                · have h9 : es.length < (allP t).length := by have := h9; simp at this; omega
                  rw [if_pos h9] at hc0
                  conv => whnf
                  refine ⟨⟨[], ?_⟩⟩
                  conv => whnf
                  rw [hc0]
                · have h9 : ¬ es.length < (allP t).length := by have := h9; simp at this; omega
                  rw [if_neg h9] at hc0
                  conv => whnf
                  refine ⟨⟨[], ?_⟩⟩
                  conv => whnf
                  rw [hc0]
end Go.Ax
