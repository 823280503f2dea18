import Derived.Test.YtjokajidcojlmaaDoorEAxKc
import Derived.Test.YtjokajidcojlmaaDoorEAxRf
import Derived.Test.YtjokajidcojlmaaDoorEAxEh

/- Packets: plain: what is read so far; maps of small numbers. -/
namespace Go.Ax
open Go.Proofs Go.RowKit Go.Shelf Go.Lib
set_option maxRecDepth 10000

/-! ### what is read, piece by piece -/
def stepK (s : List Nat × List Nat) : List UInt8 → Option (List Nat × List Nat)
  | [] => some s
  | c :: w => match wordK (c :: w) with
    | none => none
    | some (i, n) => if s.2.contains i then none else some (s.1.set i n, s.2 ++ [i])
def runK : List (List UInt8) → List Nat × List Nat → Option (List Nat × List Nat)
  | [], s => some s
  | x :: r, s => match stepK s x with
    | none => none
    | some s' => runK r s'
theorem readK_run : ∀ (l : List (List UInt8)) (s : List Nat × List Nat), readK l s.1 s.2 = (runK l s).map Prod.fst
  | [], s => rfl
  | [] :: r, s => by rw [readK, runK, stepK]; exact readK_run r s
  | (c :: w) :: r, s => by
    rw [readK, runK, stepK]
    cases h : wordK (c :: w) with
    | none => rfl
    | some x =>
      obtain ⟨i, n⟩ := x
      dsimp only
      by_cases hc : s.2.contains i = true
      · rw [if_pos hc, if_pos hc]; rfl
      · rw [if_neg hc, if_neg hc]; exact readK_run r (s.1.set i n, s.2 ++ [i])
theorem runK_app : ∀ (a b : List (List UInt8)) (s : List Nat × List Nat), runK (a ++ b) s = (runK a s).bind (runK b)
  | [], b, s => rfl
  | x :: r, b, s => by
    rw [List.cons_append, runK, runK]
    cases stepK s x with
    | none => rfl
    | some s' => exact runK_app r b s'
theorem runK_snoc (a : List (List UInt8)) (x : List UInt8) (s : List Nat × List Nat) : runK (a ++ [x]) s = (runK a s).bind fun s' => stepK s' x := by
  rw [runK_app]
  cases runK a s with
  | none => rfl
  | some s' =>
    show runK [x] s' = stepK s' x
    rw [runK]
    cases stepK s' x <;> rfl
structure StOk (s : List Nat × List Nat) : Prop where
  len : s.1.length = 8
  lt : ∀ i, i < 8 → s.1.getD i 0 < 65536
  nd : s.2.Nodup
  seen : ∀ i ∈ s.2, i < 8
theorem StOk.step {s t : List Nat × List Nat} {x : List UInt8} (h : StOk s) (e : stepK s x = some t) : StOk t := by
  cases x with
  | nil => rw [stepK] at e; injection e with e; subst e; exact h
  | cons c w =>
    rw [stepK] at e
    split at e
    · simp at e
    · rename_i i n hw
      split at e
      · simp at e
      · rename_i hc
        injection e with e
        subst e
        obtain ⟨h1, h2⟩ := wordK_lt hw
        refine ⟨by simp [h.len], fun j hj => ?_, ?_, fun j hj => ?_⟩
        · by_cases hij : i = j
          · subst hij
            have : i < s.1.length := by rw [h.len]; exact h1
            simpa [List.getD, List.getElem?_set, this] using h2
          · have := h.lt j hj
            simpa [List.getD, List.getElem?_set, hij] using this
        · rw [List.nodup_append]
          refine ⟨h.nd, by simp, fun a ha b hb => ?_⟩
          simp only [List.mem_singleton] at hb
          subst hb
          intro e
          subst e
          exact hc (by simpa using ha)
        · rcases List.mem_append.1 hj with hj | hj
          · exact h.seen j hj
          · simp at hj; omega
theorem StOk.run : ∀ {l : List (List UInt8)} {s t : List Nat × List Nat}, StOk s → runK l s = some t → StOk t
  | [], s, t, h, e => by rw [runK] at e; injection e with e; subst e; exact h
  | x :: r, s, t, h, e => by
    rw [runK] at e
    split at e
    · simp at e
    · rename_i s' hs
      exact (h.step hs).run e
theorem stOk0 : StOk (zeroP, []) := ⟨rfl, by decide, by simp, by simp⟩
theorem readP_run (t : List UInt8) : readP t = (runK (splitL 32 t) (zeroP, [])).map Prod.fst := readK_run _ (zeroP, [])
theorem readP_ok {t : List UInt8} {p : List Nat} (h : readP t = some p) : OkK p := by
  rw [readP_run] at h
  cases hr : runK (splitL 32 t) (zeroP, []) with
  | none => rw [hr] at h; simp at h
  | some s =>
    rw [hr] at h
    have := stOk0.run hr
    simp at h
    subst h
    exact ⟨this.len, this.lt⟩
theorem run_bad {pre post : List (List UInt8)} {x : List UInt8} {s s' : List Nat × List Nat} (h : runK pre s = some s') (hx : stepK s' x = none) : runK (pre ++ x :: post) s = none := by
  rw [runK_app, h]
  show runK (x :: post) s' = none
  rw [runK, hx]

/-! ### a word, cut -/
theorem split_all (c : UInt8) : ∀ l : List UInt8, splitL c l = [l] → l.all (· != c) = true
  | [], _ => rfl
  | b :: r, h => by
    rw [splitL] at h
    split at h
    · simp at h
    · rename_i hc
      have ih := split_all c r
      split at h
      · rename_i h0; exact absurd h0 (splitL_ne c r)
      · rename_i q qs hq
        simp only [List.cons.injEq, true_and] at h
        obtain ⟨rfl, rfl⟩ := h
        rw [List.all_cons, ih hq, Bool.and_true, bne_iff_ne]
        exact fun e => hc e.symm
theorem word_cut (w : List UInt8) : (Lib.indexByte w 61 = -1 → wordK w = none) ∧ (∀ n : Nat, Lib.indexByte w 61 = n → wordK w = match fieldK (w.take n), numK (w.drop (n + 1)) with
    | some i, some m => some (i, m)
    | _, _ => none) := by
  have key := index_one 61 w
  rw [Go.Lib.index_one] at key
  constructor
  · intro h
    rcases key with ⟨_, h2⟩ | ⟨n, h1, _, _⟩
    · unfold wordK; rw [h2]
    · rw [h] at h1; omega
  · intro n h
    rcases key with ⟨h1, _⟩ | ⟨m, h1, h2, h3⟩
    · rw [h] at h1; omega
    · obtain rfl : n = m := by rw [h] at h1; omega
      unfold wordK
      rw [h3]
      by_cases hd : (w.drop (n + 1)).all (· != 61) = true
      · rw [split_one 61 _ hd]
        dsimp only
        cases fieldK (w.take n) <;> cases numK (w.drop (n + 1)) <;> rfl
      · have hn : numK (w.drop (n + 1)) = none := by
          unfold numK
          rw [if_pos]
          refine .inr (.inr (.inl ?_))
          rw [Bool.eq_false_iff]
          intro ha
          apply hd
          have := isD_ne ha
          rw [List.all_eq_true] at this ⊢
          intro c hc
          have := this c hc
          simp only [Bool.and_eq_true] at this
          exact this.1
        rw [hn]
        have h4 : ∃ a b r, splitL 61 (w.drop (n + 1)) = a :: b :: r := by
          have h5 := index_one 61 (w.drop (n + 1))
          rcases h5 with ⟨_, h6⟩ | ⟨m, _, h7, h8⟩
          · exfalso
            apply hd
            exact split_all 61 _ h6
          · obtain ⟨b, r, hb⟩ := List.exists_cons_of_ne_nil (splitL_ne 61 ((w.drop (n + 1)).drop (m + 1)))
            exact ⟨_, b, r, by rw [h8, hb]⟩
        obtain ⟨a, b, r, h5⟩ := h4
        rw [h5]
        cases fieldK (w.take n) <;> rfl

/-! ### maps of small numbers -/
def entI (i : Nat) : List D × D := ([.i64 i], .v (.bool true))
theorem mfind_int (i : Nat) : ∀ (l : List Nat) (k : Nat), mfind [.int .i64] [.i64 i] (l.map entI) k = if l.contains i then some (k + l.idxOf i) else none
  | [], k => rfl
  | e :: r, k => by
    have ih := mfind_int i r (k + 1)
    have he : eqAll [.int .i64] [.i64 i] (entI e).1 0 = decide (i = e) := by
      simp [eqAll, scEq, entI, D.int]
      rw [Bool.eq_iff_iff, beq_iff_eq, decide_eq_true_iff]
      omega
    rw [List.map_cons, mfind, he, ih]
    by_cases h : i = e
    · subst h; simp
    · have h' : ¬ e = i := fun x => h x.symm
      simp only [decide_eq_false h]
      have hc : (e :: r).contains i = r.contains i := by simp [h]
      rw [hc]
      split
      · rw [List.idxOf_cons, beq_eq_false_iff_ne.2 h']
        show some _ = some (k + (List.idxOf i r + 1))
        congr 1; omega
      · rfl
theorem mget_int (l : List Nat) (i : Nat) : mget [.int .i64] [.i64 i] (.v (.bool false)) (l.map entI) = .v (.bool (l.contains i)) := by
  unfold mget
  rw [mfind_int]
  by_cases h : l.contains i = true
  · rw [if_pos h]
    have hm : i ∈ l := by simpa using h
    have hl : l.idxOf i < l.length := List.idxOf_lt_length_of_mem hm
    simp [List.getD, hl, entI]
    exact hm
  · rw [if_neg h, Bool.eq_false_iff.2 h]
theorem mput_int (l : List Nat) (i : Nat) (h : l.contains i = false) : mput [.int .i64] [.i64 i] (.v (.bool true)) (l.map entI) = (l ++ [i]).map entI := by
  unfold mput
  rw [mfind_int, if_neg (by rw [h]; simp)]
  simp [entI]
theorem keyOk_int (i : Nat) : KeyOk [.int .i64] [.i64 i] := ⟨rfl, ⟨_, rfl⟩, trivial⟩
theorem keysOk_int (l : List Nat) : KeysOk [.int .i64] (l.map entI) := fun e he => by
  obtain ⟨x, _, rfl⟩ := List.mem_map.1 he
  exact ⟨rfl, ⟨_, rfl⟩, trivial⟩
theorem hasGet_int (l : List Nat) (i : Nat) : has .bool 0 (mget [.int .i64] [.i64 i] (.v (.bool false)) (l.map entI)) := ⟨_, mget_int l i⟩
end Go.Ax

/- Packets: Read. -/
namespace Go.Ax
open Go.Proofs Go.RowKit Go.Shelf Go.Lib
set_option maxRecDepth 10000

def readPV (r : Option (List Nat)) : AV := .tup [.dagg (rowU (r.getD zeroP)), .bool r.isSome]
def invR (s : List Nat × List Nat) : HL := [(2, some (.dvar 8 (rowU zeroP))), (3, some (.dvar 1 [.v (.bool false)])), (4, some (.dvar 8 (rowU s.1))), (5, some (.var [.mp 14])), (14, some (.map false (s.2.map entI)))]
theorem baL_nil : ((baL []) : ByteArray).data.toList = [] := rfl
theorem cutV_none {c : UInt8} {l : List UInt8} (h : Lib.indexByte l c = -1) : cutV c l = .tup [.str (baL l), .str ⟨#[]⟩, .bool false] := by unfold cutV; rw [if_pos h]
theorem cutV_some {c : UInt8} {l : List UInt8} {n : Nat} (h : Lib.indexByte l c = n) : cutV c l = .tup [.str (baL (l.take n)), .str (baL (l.drop (n + 1))), .bool true] := by
  unfold cutV; rw [if_neg (by rw [h]; omega), h]; rfl
theorem indexByte_cases (c : UInt8) (l : List UInt8) : Lib.indexByte l c = -1 ∨ ∃ n : Nat, Lib.indexByte l c = n ∧ n < l.length := by
  have := index_one c l
  rw [Go.Lib.index_one] at this
  rcases this with ⟨h, _⟩ | ⟨n, h, h2, _⟩
  · exact .inl h
  · exact .inr ⟨n, h, h2⟩
theorem rowU_set (p : List Nat) (hp : p.length = 8) (i : Nat) (h : i < 8) (n : Nat) : splice (rowU p) [D.v (.int .u16 (n : Int))] (0 + ((i : Nat) : Int).toNat * 1) = rowU (p.set i n) := by
  rw [show 0 + ((i : Nat) : Int).toNat * 1 = i from by omega, splice_one _ _ _ (by rw [rowU_len]; omega), rowU, rowU, List.map_set]; rfl
theorem numW_some {l : List UInt8} {m : Nat} (h : numK l = some m) : numW l = m := by
  unfold numK at h
  split at h
  · simp at h
  · rename_i hc
    injection h with h
    subst h
    unfold numW
    have h1 : ¬ (l.length < 1 ∨ 5 < l.length ∨ l.all isD = false) := fun h => by
      rcases h with h | h | h
      · exact hc (.inl h)
      · exact hc (.inr (.inl h))
      · exact hc (.inr (.inr (.inl h)))
    have h2 : ¬ 65535 < valD 0 l := fun h => hc (.inr (.inr (.inr h)))
    rw [if_neg h1, if_neg h2]
theorem readp_ctr (g : GP) (he : ∀ w, g.G w → ErrG w) (t : List UInt8) (ht : t.length ≤ 100000) : Ctr (ax g).E 67 [.str (baL t)] [] (fun o => o = .ret (readPV (readP t)) []) := by
  have hts := ba_size t
  refine Ctr.bodyT (X := ax g) _ 58 [] [.cell 2 96, .cell 3 4] Tryd.func67 rfl rfl rfl rfl (by decide +kernel) rfl rfl ?_
  conv => whnf
  repeat' (first | (refine And.intro (by first | exact rfl | decide | exact Nat.le_of_ble_eq_true rfl | exact ⟨_, rfl⟩ | exact ⟨_, _, rfl⟩ | exact Nat.le_refl _ | exact Int.le_refl _ | omega | (simp only [List.length_map]; omega) | exact True.intro | (simp only [IntKind.wrap_i64, List.length_map]; omega) | (simp only [List.map_cons, List.map_nil, List.length_cons, Option.getD]; omega) | (simp only [bsz, ByteArray.size_append, List.size_toArray, List.length_cons, List.length_nil]; omega) | exact ⟨⟨_, _, rfl, rfl, Nat.le_of_ble_eq_true rfl⟩, trivial⟩ | exact ⟨⟨_, _, rfl, rfl, Nat.le_of_ble_eq_true rfl⟩, ⟨_, _, rfl, rfl, Nat.le_of_ble_eq_true rfl⟩, trivial⟩ | exact ⟨⟨_, _, rfl, rfl, Nat.le_of_ble_eq_true rfl⟩, ⟨_, _, rfl, rfl, Nat.le_of_ble_eq_true rfl⟩, ⟨_, _, rfl, rfl, Nat.le_of_ble_eq_true rfl⟩, trivial⟩) ?_; conv => whnf) | (refine ifB_intro (fun hA => ?_) (fun hA => ?_) <;> (try rw [hA]) <;> (conv => whnf) <;> (first | replace hA := of_decide_eq_true hA | replace hA := of_decide_eq_false hA | replace hA := eq_of_beq hA | replace hA := ne_of_beq_false hA | replace hA := bne_iff_ne.1 hA | replace hA := bne_eq_false_iff_eq.1 hA | skip) <;> (try simp only [List.length_map, cond_true, cond_false, Bool.not_eq_true', Bool.not_eq_false', beq_iff_eq, beq_eq_false_iff_ne, ne_eq] at hA)) | (rw [getD_map _ _ _ _ (by assumption)]; conv => whnf))
  refine CallP.makesL rfl (split_ctr g (baL t) 32) ?_
  conv => whnf
  have hit : IterC (ax g).E 164 [.ptr 9104 0, .ptr 9103 0, .ptr 9105 0] (boxH (baL t) 32) (fun l : List UInt8 => Value.string (baL l)) (splitL 32 t) := by
    have := split_iter g 32 (index165 g 32) (baL t) (by omega)
    rwa [ba_toList] at this
  refine OtherP.rangeI (X := ax g) (boxH (baL t) 32) (splitL 32 t) (fun pre => invR ((runK pre (zeroP, [])).getD (zeroP, []))) (fun pre => ∃ s, runK pre (zeroP, []) = some s) [2, 3, 4, 5, 14] [(0, .str (baL t)), (2, .ptr 2 0), (3, .ptr 3 0), (4, .ptr 4 0), (5, .ptr 5 0)] rfl rfl rfl rfl hit rfl ⟨fun o h => h, fun o h => h, fun o h => h, trivial⟩ ⟨_, rfl⟩ ⟨fun o h => h, fun o h => h, fun o h => h, fun o h => h, fun o h => h, trivial⟩ rfl ⟨rfl, rfl, rfl, rfl, rfl, trivial⟩ rfl rfl rfl (fun _ => rfl) (fun pre x post hx hI => ?_) (fun hI => ?_)
  · obtain ⟨s, hs⟩ := hI
    have hok := stOk0.run hs
    have hm : x ∈ splitL 32 t := by rw [hx]; simp
    have hlen := split_len 32 t x hm
    have hsn := runK_snoc pre x (zeroP, [])
    rw [hs] at hsn ⊢
    have hbad : stepK s x = none → readP t = none := fun h => by
      rw [readP_run, hx, run_bad hs h]; rfl
    have hsn : runK (pre ++ [x]) (zeroP, []) = stepK s x := hsn
    rw [hsn]
    obtain ⟨p, seen⟩ := s
    have hp8 : (rowU p).length = 8 := by rw [rowU_len]; exact hok.len
    cases x with
    | nil =>
      conv => whnf
      repeat' (first | (refine And.intro (by first | exact rfl | decide | exact Nat.le_of_ble_eq_true rfl | exact ⟨_, rfl⟩ | exact ⟨_, _, rfl⟩ | exact Nat.le_refl _ | exact Int.le_refl _ | omega | (simp only []; omega) | exact True.intro | (simp only []; omega) | (simp only [Option.getD]; omega) | (simp only []; omega) | exact ⟨⟨_, _, rfl, rfl, Nat.le_of_ble_eq_true rfl⟩, trivial⟩ | exact ⟨⟨_, _, rfl, rfl, Nat.le_of_ble_eq_true rfl⟩, ⟨_, _, rfl, rfl, Nat.le_of_ble_eq_true rfl⟩, trivial⟩ | exact ⟨⟨_, _, rfl, rfl, Nat.le_of_ble_eq_true rfl⟩, ⟨_, _, rfl, rfl, Nat.le_of_ble_eq_true rfl⟩, ⟨_, _, rfl, rfl, Nat.le_of_ble_eq_true rfl⟩, trivial⟩) ?_; conv => whnf) | (refine ifB_intro (fun hA => ?_) (fun hA => ?_) <;> (try rw [hA]) <;> (conv => whnf) <;> (first | replace hA := of_decide_eq_true hA | replace hA := of_decide_eq_false hA | replace hA := eq_of_beq hA | replace hA := ne_of_beq_false hA | replace hA := bne_iff_ne.1 hA | replace hA := bne_eq_false_iff_eq.1 hA | skip) <;> (try simp only [List.length_map, cond_true, cond_false, Bool.not_eq_true', Bool.not_eq_false', beq_iff_eq, beq_eq_false_iff_ne, ne_eq] at hA)) | (rw [getD_map _ _ _ _ (by assumption)]; conv => whnf))
      exact ⟨fun o h => h, fun o h => h, fun o h => h, fun o h => h, fun o h => h, trivial⟩
    | cons c w =>
      have hcut := cut_ctr g (baL (c :: w)) 61 (by rw [ba_size]; omega)
      rw [ba_toList] at hcut
      have hfe : (baL (c :: w)).data.toList = c :: w := ba_toList _
      have hst : stepK (p, seen) (c :: w) = match wordK (c :: w) with
        | none => none
        | some (i, n) => if seen.contains i then none else some (p.set i n, seen ++ [i]) := rfl
      generalize hxx : c :: w = x at *
      have hne : x ≠ [] := by rw [← hxx]; simp
      rcases indexByte_cases 61 x with h | ⟨n, h, hn⟩
      · rw [cutV_none h] at hcut
        have hw := (word_cut x).1 h
        rw [hw] at hst
        have hb := hbad hst
        have hf := field_ctr g (baL x)
        have hnum := number_ctr g he [] (by simp)
        conv => whnf
        repeat' (first | (refine And.intro (by first | exact rfl | decide | exact Nat.le_of_ble_eq_true rfl | exact ⟨_, rfl⟩ | exact ⟨_, _, rfl⟩ | exact Nat.le_refl _ | exact Int.le_refl _ | omega | (simp only []; omega) | exact True.intro | (simp only [IntKind.wrap_i64, List.length_map]; omega) | (simp only [List.map_cons, List.map_nil, List.length_cons, Option.getD]; omega) | (simp only [bsz, ByteArray.size_append, List.size_toArray, List.length_cons, List.length_nil]; omega) | exact ⟨⟨_, _, rfl, rfl, Nat.le_of_ble_eq_true rfl⟩, trivial⟩ | exact ⟨⟨_, _, rfl, rfl, Nat.le_of_ble_eq_true rfl⟩, ⟨_, _, rfl, rfl, Nat.le_of_ble_eq_true rfl⟩, trivial⟩ | exact ⟨⟨_, _, rfl, rfl, Nat.le_of_ble_eq_true rfl⟩, ⟨_, _, rfl, rfl, Nat.le_of_ble_eq_true rfl⟩, ⟨_, _, rfl, rfl, Nat.le_of_ble_eq_true rfl⟩, trivial⟩) ?_; conv => whnf) | (refine ifB_intro (fun hA => ?_) (fun hA => ?_) <;> (try rw [hA]) <;> (conv => whnf) <;> (first | replace hA := of_decide_eq_true hA | replace hA := of_decide_eq_false hA | replace hA := eq_of_beq hA | replace hA := ne_of_beq_false hA | replace hA := bne_iff_ne.1 hA | replace hA := bne_eq_false_iff_eq.1 hA | skip) <;> (try simp only [ne_eq] at hA)) | (refine CallP.det (hcut) ?_; conv => whnf) | (refine CallD.det (hcut) ?_; conv => whnf) | (refine CallP.det (hf) ?_; conv => whnf) | (refine CallD.det (hf) ?_; conv => whnf) | (refine CallP.det (hnum) ?_; conv => whnf) | (refine CallD.det (hnum) ?_; conv => whnf) | (rw [getD_map _ _ _ _ (by assumption)]; conv => whnf))
        · rw [ba_toList] at hA; exact absurd hA hne
        · refine ⟨⟨[], ?_⟩⟩
          conv => whnf
          repeat' (first | (refine And.intro (by first | exact rfl | decide | exact Nat.le_of_ble_eq_true rfl | exact ⟨_, rfl⟩ | exact ⟨_, _, rfl⟩ | exact Nat.le_refl _ | exact Int.le_refl _ | omega | (simp only [List.length_map]; omega) | exact True.intro | (simp only [IntKind.wrap_i64, List.length_map]; omega) | (simp only [List.map_cons, List.map_nil, List.length_cons, Option.getD]; omega) | (simp only [bsz, ByteArray.size_append, List.size_toArray, List.length_cons, List.length_nil]; omega) | exact ⟨⟨_, _, rfl, rfl, Nat.le_of_ble_eq_true rfl⟩, trivial⟩ | exact ⟨⟨_, _, rfl, rfl, Nat.le_of_ble_eq_true rfl⟩, ⟨_, _, rfl, rfl, Nat.le_of_ble_eq_true rfl⟩, trivial⟩ | exact ⟨⟨_, _, rfl, rfl, Nat.le_of_ble_eq_true rfl⟩, ⟨_, _, rfl, rfl, Nat.le_of_ble_eq_true rfl⟩, ⟨_, _, rfl, rfl, Nat.le_of_ble_eq_true rfl⟩, trivial⟩) ?_; conv => whnf) | (refine ifB_intro (fun hA => ?_) (fun hA => ?_) <;> (try rw [hA]) <;> (conv => whnf) <;> (first | replace hA := of_decide_eq_true hA | replace hA := of_decide_eq_false hA | replace hA := eq_of_beq hA | replace hA := ne_of_beq_false hA | replace hA := bne_iff_ne.1 hA | replace hA := bne_eq_false_iff_eq.1 hA | skip) <;> (try simp only [List.length_map, cond_true, cond_false, Bool.not_eq_true', Bool.not_eq_false', beq_iff_eq, beq_eq_false_iff_ne, ne_eq] at hA)) | (rw [getD_map _ _ _ _ (by assumption)]; conv => whnf))
          rw [hb]; rfl
      · rw [cutV_some h] at hcut
        have hw := (word_cut x).2 n h
        have hf := field_ctr g (baL (x.take n))
        have hnum := number_ctr g he (x.drop (n + 1)) (by rw [List.length_drop]; omega)
        rw [ba_toList] at hf
        cases hfk : fieldK (x.take n) with
        | none =>
          rw [hfk] at hf hw
          rw [hw] at hst
          have hb := hbad hst
          conv => whnf
          repeat' (first | (refine And.intro (by first | exact rfl | decide | exact Nat.le_of_ble_eq_true rfl | exact ⟨_, rfl⟩ | exact ⟨_, _, rfl⟩ | exact Nat.le_refl _ | exact Int.le_refl _ | omega | (simp only []; omega) | exact True.intro | (simp only [IntKind.wrap_i64, List.length_map]; omega) | (simp only [List.map_cons, List.map_nil, List.length_cons, Option.getD]; omega) | (simp only [bsz, ByteArray.size_append, List.size_toArray, List.length_cons, List.length_nil]; omega) | exact ⟨⟨_, _, rfl, rfl, Nat.le_of_ble_eq_true rfl⟩, trivial⟩ | exact ⟨⟨_, _, rfl, rfl, Nat.le_of_ble_eq_true rfl⟩, ⟨_, _, rfl, rfl, Nat.le_of_ble_eq_true rfl⟩, trivial⟩ | exact ⟨⟨_, _, rfl, rfl, Nat.le_of_ble_eq_true rfl⟩, ⟨_, _, rfl, rfl, Nat.le_of_ble_eq_true rfl⟩, ⟨_, _, rfl, rfl, Nat.le_of_ble_eq_true rfl⟩, trivial⟩) ?_; conv => whnf) | (refine ifB_intro (fun hA => ?_) (fun hA => ?_) <;> (try rw [hA]) <;> (conv => whnf) <;> (first | replace hA := of_decide_eq_true hA | replace hA := of_decide_eq_false hA | replace hA := eq_of_beq hA | replace hA := ne_of_beq_false hA | replace hA := bne_iff_ne.1 hA | replace hA := bne_eq_false_iff_eq.1 hA | skip) <;> (try simp only [ne_eq] at hA)) | (refine CallP.det (hcut) ?_; conv => whnf) | (refine CallD.det (hcut) ?_; conv => whnf) | (refine CallP.det (hf) ?_; conv => whnf) | (refine CallD.det (hf) ?_; conv => whnf) | (refine CallP.det (hnum) ?_; conv => whnf) | (refine CallD.det (hnum) ?_; conv => whnf) | (rw [getD_map _ _ _ _ (by assumption)]; conv => whnf))
          · rw [ba_toList] at hA; exact absurd hA hne
          · refine ⟨⟨[], ?_⟩⟩
            conv => whnf
            repeat' (first | (refine And.intro (by first | exact rfl | decide | exact Nat.le_of_ble_eq_true rfl | exact ⟨_, rfl⟩ | exact ⟨_, _, rfl⟩ | exact Nat.le_refl _ | exact Int.le_refl _ | omega | (simp only [List.length_map]; omega) | exact True.intro | (simp only [IntKind.wrap_i64, List.length_map]; omega) | (simp only [List.map_cons, List.map_nil, List.length_cons, Option.getD]; omega) | (simp only [bsz, ByteArray.size_append, List.size_toArray, List.length_cons, List.length_nil]; omega) | exact ⟨⟨_, _, rfl, rfl, Nat.le_of_ble_eq_true rfl⟩, trivial⟩ | exact ⟨⟨_, _, rfl, rfl, Nat.le_of_ble_eq_true rfl⟩, ⟨_, _, rfl, rfl, Nat.le_of_ble_eq_true rfl⟩, trivial⟩ | exact ⟨⟨_, _, rfl, rfl, Nat.le_of_ble_eq_true rfl⟩, ⟨_, _, rfl, rfl, Nat.le_of_ble_eq_true rfl⟩, ⟨_, _, rfl, rfl, Nat.le_of_ble_eq_true rfl⟩, trivial⟩) ?_; conv => whnf) | (refine ifB_intro (fun hA => ?_) (fun hA => ?_) <;> (try rw [hA]) <;> (conv => whnf) <;> (first | replace hA := of_decide_eq_true hA | replace hA := of_decide_eq_false hA | replace hA := eq_of_beq hA | replace hA := ne_of_beq_false hA | replace hA := bne_iff_ne.1 hA | replace hA := bne_eq_false_iff_eq.1 hA | skip) <;> (try simp only [List.length_map, cond_true, cond_false, Bool.not_eq_true', Bool.not_eq_false', beq_iff_eq, beq_eq_false_iff_ne, ne_eq] at hA)) | (rw [getD_map _ _ _ _ (by assumption)]; conv => whnf))
            rw [hb]; rfl
        | some i =>
          rw [hfk] at hf hw
          cases hnk : numK (x.drop (n + 1)) with
          | none =>
            rw [hnk] at hnum hw
            rw [hw] at hst
            have hb := hbad hst
            conv => whnf
            repeat' (first | (refine And.intro (by first | exact rfl | decide | exact Nat.le_of_ble_eq_true rfl | exact ⟨_, rfl⟩ | exact ⟨_, _, rfl⟩ | exact Nat.le_refl _ | exact Int.le_refl _ | omega | (simp only []; omega) | exact True.intro | (simp only [IntKind.wrap_i64, List.length_map]; omega) | (simp only [List.map_cons, List.map_nil, List.length_cons, Option.getD]; omega) | (simp only [bsz, ByteArray.size_append, List.size_toArray, List.length_cons, List.length_nil]; omega) | exact ⟨⟨_, _, rfl, rfl, Nat.le_of_ble_eq_true rfl⟩, trivial⟩ | exact ⟨⟨_, _, rfl, rfl, Nat.le_of_ble_eq_true rfl⟩, ⟨_, _, rfl, rfl, Nat.le_of_ble_eq_true rfl⟩, trivial⟩ | exact ⟨⟨_, _, rfl, rfl, Nat.le_of_ble_eq_true rfl⟩, ⟨_, _, rfl, rfl, Nat.le_of_ble_eq_true rfl⟩, ⟨_, _, rfl, rfl, Nat.le_of_ble_eq_true rfl⟩, trivial⟩) ?_; conv => whnf) | (refine ifB_intro (fun hA => ?_) (fun hA => ?_) <;> (try rw [hA]) <;> (conv => whnf) <;> (first | replace hA := of_decide_eq_true hA | replace hA := of_decide_eq_false hA | replace hA := eq_of_beq hA | replace hA := ne_of_beq_false hA | replace hA := bne_iff_ne.1 hA | replace hA := bne_eq_false_iff_eq.1 hA | skip) <;> (try simp only [ne_eq] at hA)) | (refine CallP.det (hcut) ?_; conv => whnf) | (refine CallD.det (hcut) ?_; conv => whnf) | (refine CallP.det (hf) ?_; conv => whnf) | (refine CallD.det (hf) ?_; conv => whnf) | (refine CallP.det (hnum) ?_; conv => whnf) | (refine CallD.det (hnum) ?_; conv => whnf) | (rw [getD_map _ _ _ _ (by assumption)]; conv => whnf))
            · rw [ba_toList] at hA; exact absurd hA hne
            · refine ⟨⟨[], ?_⟩⟩
              conv => whnf
              repeat' (first | (refine And.intro (by first | exact rfl | decide | exact Nat.le_of_ble_eq_true rfl | exact ⟨_, rfl⟩ | exact ⟨_, _, rfl⟩ | exact Nat.le_refl _ | exact Int.le_refl _ | omega | (simp only [List.length_map]; omega) | exact True.intro | (simp only [IntKind.wrap_i64, List.length_map]; omega) | (simp only [List.map_cons, List.map_nil, List.length_cons, Option.getD]; omega) | (simp only [bsz, ByteArray.size_append, List.size_toArray, List.length_cons, List.length_nil]; omega) | exact ⟨⟨_, _, rfl, rfl, Nat.le_of_ble_eq_true rfl⟩, trivial⟩ | exact ⟨⟨_, _, rfl, rfl, Nat.le_of_ble_eq_true rfl⟩, ⟨_, _, rfl, rfl, Nat.le_of_ble_eq_true rfl⟩, trivial⟩ | exact ⟨⟨_, _, rfl, rfl, Nat.le_of_ble_eq_true rfl⟩, ⟨_, _, rfl, rfl, Nat.le_of_ble_eq_true rfl⟩, ⟨_, _, rfl, rfl, Nat.le_of_ble_eq_true rfl⟩, trivial⟩) ?_; conv => whnf) | (refine ifB_intro (fun hA => ?_) (fun hA => ?_) <;> (try rw [hA]) <;> (conv => whnf) <;> (first | replace hA := of_decide_eq_true hA | replace hA := of_decide_eq_false hA | replace hA := eq_of_beq hA | replace hA := ne_of_beq_false hA | replace hA := bne_iff_ne.1 hA | replace hA := bne_eq_false_iff_eq.1 hA | skip) <;> (try simp only [List.length_map, cond_true, cond_false, Bool.not_eq_true', Bool.not_eq_false', beq_iff_eq, beq_eq_false_iff_ne, ne_eq] at hA)) | (rw [getD_map _ _ _ _ (by assumption)]; conv => whnf))
              rw [hb]; rfl
          | some m =>
            rw [hnk] at hnum hw
            rw [hw] at hst
            have hi8 := fieldK_lt hfk
            rw [numW_some hnk] at hnum
            conv => whnf
            repeat' (first | (refine And.intro (by first | exact rfl | decide | exact Nat.le_of_ble_eq_true rfl | exact ⟨_, rfl⟩ | exact ⟨_, _, rfl⟩ | exact Nat.le_refl _ | exact Int.le_refl _ | omega | (simp only []; omega) | exact True.intro | (simp only []; omega) | (simp only [Option.getD]; omega) | (simp only []; omega) | exact ⟨⟨_, _, rfl, rfl, Nat.le_of_ble_eq_true rfl⟩, trivial⟩ | exact ⟨⟨_, _, rfl, rfl, Nat.le_of_ble_eq_true rfl⟩, ⟨_, _, rfl, rfl, Nat.le_of_ble_eq_true rfl⟩, trivial⟩ | exact ⟨⟨_, _, rfl, rfl, Nat.le_of_ble_eq_true rfl⟩, ⟨_, _, rfl, rfl, Nat.le_of_ble_eq_true rfl⟩, ⟨_, _, rfl, rfl, Nat.le_of_ble_eq_true rfl⟩, trivial⟩) ?_; conv => whnf) | (refine ifB_intro (fun hA => ?_) (fun hA => ?_) <;> (try rw [hA]) <;> (conv => whnf) <;> (first | replace hA := of_decide_eq_true hA | replace hA := of_decide_eq_false hA | replace hA := eq_of_beq hA | replace hA := ne_of_beq_false hA | replace hA := bne_iff_ne.1 hA | replace hA := bne_eq_false_iff_eq.1 hA | skip) <;> (try simp only [ne_eq] at hA)) | (refine CallP.det (hcut) ?_; conv => whnf) | (refine CallD.det (hcut) ?_; conv => whnf) | (refine CallP.det (hf) ?_; conv => whnf) | (refine CallD.det (hf) ?_; conv => whnf) | (refine CallP.det (hnum) ?_; conv => whnf) | (refine CallD.det (hnum) ?_; conv => whnf) | (refine And.intro (keyOk_int _) ?_; conv => whnf) | (refine And.intro (keysOk_int _) ?_; conv => whnf) | (refine And.intro (hasGet_int _ _) ?_; conv => whnf) | (rw [getD_map _ _ _ _ (by assumption)]; conv => whnf))
            · rw [ba_toList] at hA; exact absurd hA hne
            · have hA : (mget [.int .i64] [.i64 i] (.v (.bool false)) (seen.map entI)).bool = true := hA
              rw [mget_int] at hA
              have hA : seen.contains i = true := hA
              have hb := hbad (by rw [hst]; exact if_pos hA)
              refine ⟨⟨[], ?_⟩⟩
              conv => whnf
              repeat' (first | (refine And.intro (by first | exact rfl | decide | exact Nat.le_of_ble_eq_true rfl | exact ⟨_, rfl⟩ | exact ⟨_, _, rfl⟩ | exact Nat.le_refl _ | exact Int.le_refl _ | omega | (simp only [List.length_map]; omega) | exact True.intro | (simp only [IntKind.wrap_i64, List.length_map]; omega) | (simp only [List.map_cons, List.map_nil, List.length_cons, Option.getD]; omega) | (simp only [bsz, ByteArray.size_append, List.size_toArray, List.length_cons, List.length_nil]; omega) | exact ⟨⟨_, _, rfl, rfl, Nat.le_of_ble_eq_true rfl⟩, trivial⟩ | exact ⟨⟨_, _, rfl, rfl, Nat.le_of_ble_eq_true rfl⟩, ⟨_, _, rfl, rfl, Nat.le_of_ble_eq_true rfl⟩, trivial⟩ | exact ⟨⟨_, _, rfl, rfl, Nat.le_of_ble_eq_true rfl⟩, ⟨_, _, rfl, rfl, Nat.le_of_ble_eq_true rfl⟩, ⟨_, _, rfl, rfl, Nat.le_of_ble_eq_true rfl⟩, trivial⟩) ?_; conv => whnf) | (refine ifB_intro (fun hA => ?_) (fun hA => ?_) <;> (try rw [hA]) <;> (conv => whnf) <;> (first | replace hA := of_decide_eq_true hA | replace hA := of_decide_eq_false hA | replace hA := eq_of_beq hA | replace hA := ne_of_beq_false hA | replace hA := bne_iff_ne.1 hA | replace hA := bne_eq_false_iff_eq.1 hA | skip) <;> (try simp only [List.length_map, cond_true, cond_false, Bool.not_eq_true', Bool.not_eq_false', beq_iff_eq, beq_eq_false_iff_ne, ne_eq] at hA)) | (rw [getD_map _ _ _ _ (by assumption)]; conv => whnf))
              rw [hb]; rfl
            · have hA : (mget [.int .i64] [.i64 i] (.v (.bool false)) (seen.map entI)).bool = false := hA
              rw [mget_int] at hA
              have hA : seen.contains i = false := hA
              have e : stepK (p, seen) x = some (p.set i m, seen ++ [i]) := by rw [hst]; exact if_neg (by rw [hA]; simp)
              rw [e]
              refine ⟨⟨_, rfl⟩, fun o h => h, fun o h => h, fun o h => ?_, fun o h => h, fun o h => ?_, trivial⟩
              · rw [← h]; exact congrArg (fun z => some (AObj.dvar 8 z)) (rowU_set p hok.len i hi8 m)
              · rw [← h]; exact congrArg (fun z => some (AObj.map false z)) (mput_int seen i hA)
  · obtain ⟨s, hs⟩ := hI
    have hok := stOk0.run hs
    have hr : readP t = some s.1 := by rw [readP_run, hs]; rfl
    rw [hs]
    obtain ⟨p, seen⟩ := s
    have h8 := hok.len
    dsimp only at h8 hr
    clear hs hok
    obtain ⟨a0, a1, a2, a3, a4, a5, a6, a7, rfl⟩ := eight h8
    conv => whnf
    repeat' (first | (refine And.intro (by first | exact rfl | decide | exact Nat.le_of_ble_eq_true rfl | exact ⟨_, rfl⟩ | exact ⟨_, _, rfl⟩ | exact Nat.le_refl _ | exact Int.le_refl _ | omega | (simp only [List.length_map]; omega) | exact True.intro | (simp only [IntKind.wrap_i64, List.length_map]; omega) | (simp only [List.map_cons, List.map_nil, List.length_cons, Option.getD]; omega) | (simp only [bsz, ByteArray.size_append, List.size_toArray, List.length_cons, List.length_nil]; omega) | exact ⟨⟨_, _, rfl, rfl, Nat.le_of_ble_eq_true rfl⟩, trivial⟩ | exact ⟨⟨_, _, rfl, rfl, Nat.le_of_ble_eq_true rfl⟩, ⟨_, _, rfl, rfl, Nat.le_of_ble_eq_true rfl⟩, trivial⟩ | exact ⟨⟨_, _, rfl, rfl, Nat.le_of_ble_eq_true rfl⟩, ⟨_, _, rfl, rfl, Nat.le_of_ble_eq_true rfl⟩, ⟨_, _, rfl, rfl, Nat.le_of_ble_eq_true rfl⟩, trivial⟩) ?_; conv => whnf) | (refine ifB_intro (fun hA => ?_) (fun hA => ?_) <;> (try rw [hA]) <;> (conv => whnf) <;> (first | replace hA := of_decide_eq_true hA | replace hA := of_decide_eq_false hA | replace hA := eq_of_beq hA | replace hA := ne_of_beq_false hA | replace hA := bne_iff_ne.1 hA | replace hA := bne_eq_false_iff_eq.1 hA | skip) <;> (try simp only [List.length_map, cond_true, cond_false, Bool.not_eq_true', Bool.not_eq_false', beq_iff_eq, beq_eq_false_iff_ne, ne_eq] at hA)) | (rw [getD_map _ _ _ _ (by assumption)]; conv => whnf))
    refine ⟨⟨[], ?_⟩⟩
    conv => whnf
    repeat' (first | (refine And.intro (by first | exact rfl | decide | exact Nat.le_of_ble_eq_true rfl | exact ⟨_, rfl⟩ | exact ⟨_, _, rfl⟩ | exact Nat.le_refl _ | exact Int.le_refl _ | omega | (simp only [List.length_map]; omega) | exact True.intro | (simp only [IntKind.wrap_i64, List.length_map]; omega) | (simp only [List.map_cons, List.map_nil, List.length_cons, Option.getD]; omega) | (simp only [bsz, ByteArray.size_append, List.size_toArray, List.length_cons, List.length_nil]; omega) | exact ⟨⟨_, _, rfl, rfl, Nat.le_of_ble_eq_true rfl⟩, trivial⟩ | exact ⟨⟨_, _, rfl, rfl, Nat.le_of_ble_eq_true rfl⟩, ⟨_, _, rfl, rfl, Nat.le_of_ble_eq_true rfl⟩, trivial⟩ | exact ⟨⟨_, _, rfl, rfl, Nat.le_of_ble_eq_true rfl⟩, ⟨_, _, rfl, rfl, Nat.le_of_ble_eq_true rfl⟩, ⟨_, _, rfl, rfl, Nat.le_of_ble_eq_true rfl⟩, trivial⟩) ?_; conv => whnf) | (refine ifB_intro (fun hA => ?_) (fun hA => ?_) <;> (try rw [hA]) <;> (conv => whnf) <;> (first | replace hA := of_decide_eq_true hA | replace hA := of_decide_eq_false hA | replace hA := eq_of_beq hA | replace hA := ne_of_beq_false hA | replace hA := bne_iff_ne.1 hA | replace hA := bne_eq_false_iff_eq.1 hA | skip) <;> (try simp only [List.length_map, cond_true, cond_false, Bool.not_eq_true', Bool.not_eq_false', beq_iff_eq, beq_eq_false_iff_ne, ne_eq] at hA)) | (rw [getD_map _ _ _ _ (by assumption)]; conv => whnf))
    rw [hr]; rfl
end Go.Ax
