import Derived.Test.YtjokajidcojlmaaDoorBAxTt
import Derived.Test.YtjokajidcojlmaaDoorBAxPa

/- topo's parser: a statement, a text. -/
namespace Go.Ax
open Go.Proofs Go.Lib
set_option maxRecDepth 10000

theorem lkH_memo : ∀ {h : HL} {r : Nat} {o : AObj}, lkH r h = some o → ∃ p ∈ h, p.1 = r
  | [], r, o, h => by simp [lkH] at h
  | (q, v) :: h, r, o, hr => by
    simp only [lkH] at hr
    split at hr
    · rename_i hb; exact ⟨_, List.mem_cons_self .., Nat.eq_of_beq_eq_true hb⟩
    · obtain ⟨p, h1, h2⟩ := lkH_memo hr; exact ⟨p, List.mem_cons_of_mem _ h1, h2⟩
/-- A call that changes objects. -/
theorem CallP.hl {E : Env} {k : Kn} {f : FuncId} {args : List AV} {s : St} {K : AV → HL → Prop} {KP : List PanicEntry → HL → Prop} {res : AV} (hin ho : HL) (h1 : LeH hin s.h) (h2 : ho.all (fun p => (lkH p.1 hin).isSome) = true)
    (h : Ctr E f args hin fun o => o = .ret res ho) (hk : K res (ho ++ (killed hin ++ s.h))) : CallP E k f args s K KP :=
  ⟨_, _, h, fun r o hr => LeH.at h1 r o hr, fun res' ho' e => by
    injection e with e1 e2; subst e1; subst e2
    exact ⟨fun r o hr => .inl (by
      obtain ⟨p, q1, q2⟩ := lkH_memo hr
      have := List.all_eq_true.1 h2 p q1
      rw [q2] at this
      exact Option.isSome_iff_exists.1 this), hk⟩, fun ch ho e => by simp at e⟩

theorem word_ctr' (g : GP) (p : PS) (h : EndsOk p.l) (s : ByteArray) : Ctr (ax g).E 132 [.ptr 9000 0, .str s] [(9000, some (objS p))] (fun o => o = .ret (.bool (wordB p s)) [(9000, some (objS (takeF p s)))]) := by
  obtain ⟨t, r, hl⟩ := h.cons
  obtain ⟨l, b⟩ := p
  subst hl
  exact pword_ctr g t r b s
def numberP (p : PS) : PS := ⟨if isN (hd p.l) then p.l.tail else p.l, p.bad⟩
theorem number_ctr' (g : GP) (p : PS) (h : EndsOk p.l) : Ctr (ax g).E 134 [.ptr 9000 0] [(9000, some (objS p))] (fun o => o = .ret (.tup [.d (.v (.int .u16 (numN (hd p.l)))), .bool (isN (hd p.l))]) [(9000, some (objS (numberP p)))]) := by
  obtain ⟨t, r, hl⟩ := h.cons
  obtain ⟨l, b⟩ := p
  subst hl
  exact pnumber_ctr g t r b

def tvO (t : TopoT) : AObj := .var [.msl 9002 t.sw.length 0 t.sw.length, .msl 9003 t.links.length 0 t.links.length, .msl 9004 t.hosts.length 0 t.hosts.length]
def topoH (t : TopoT) : HL := [(9001, some (tvO t)), (9002, some (.buf 1 26 (t.sw.map rowS))), (9003, some (.buf 4 64 (t.links.map rowL))), (9004, some (.buf 2 63 (t.hosts.map rowP)))]

def numsF : List TokT → List Int → List TokT × List Int
  | [], acc => ([], acc)
  | t :: r, acc => if isN t then numsF r (acc ++ [t.n]) else (t :: r, acc)
def link4 : ByteArray := ⟨#[108, 105, 110, 107]⟩
def host4 : ByteArray := ⟨#[104, 111, 115, 116]⟩
def dot1 : ByteArray := ⟨#[46]⟩
def dash1 : ByteArray := ⟨#[45]⟩
def swF (p : PS) (t : TopoT) : PS × TopoT :=
  let q := needF (takeF p switchB)
  let r := numsF q.2.l (t.sw ++ [q.1])
  (⟨r.1, q.2.bad⟩, { t with sw := r.2 })
def lkF (p : PS) (t : TopoT) : PS × TopoT :=
  let a := portF (takeF p link4)
  let b := portF (mustF a.2 dash1)
  (b.2, { t with links := t.links ++ [(a.1, b.1)] })
def hoF (p : PS) (t : TopoT) : PS × TopoT :=
  let a := portF (takeF p host4)
  (a.2, { t with hosts := t.hosts ++ [a.1] })
def statF (p : PS) (t : TopoT) : PS × TopoT :=
  let x := if wordB p switchB then swF p t else if wordB p link4 then lkF p t else if wordB p host4 then hoF p t else (⟨p.l, true⟩, t)
  (mustF x.1 dot1, x.2)

theorem takeF_ok {p : PS} {s : ByteArray} (h : EndsOk p.l) : EndsOk (takeF p s).l := by
  obtain ⟨t, r, hl⟩ := h.cons
  simp only [takeF, wordB, hl, hd, List.headD_cons, List.tail_cons]
  rw [hl] at h
  split
  · rename_i hn; exact h.tail (isW_kind hn)
  · exact h
theorem portF_ok {p : PS} (h : EndsOk p.l) : EndsOk (portF p).2.l := needF_ok (mustF_ok (needF_ok h))
theorem numsF_ok : ∀ {l : List TokT} {acc : List Int}, EndsOk l → EndsOk (numsF l acc).1
  | [], _, h => h
  | t :: r, acc, h => by
    simp only [numsF]
    split
    · rename_i hn
      exact numsF_ok (h.tail (fun e => by rw [isN, e] at hn; exact absurd hn (by decide)))
    · exact h
theorem takeF_no {p : PS} {s : ByteArray} (h : wordB p s = false) : takeF p s = p := by
  obtain ⟨l, b⟩ := p
  simp only [takeF, h]; rfl

theorem takeF_len {p : PS} {s : ByteArray} (h : EndsOk p.l) (hw : wordB p s = true) : (takeF p s).l.length + 1 = p.l.length := by
  obtain ⟨t, r, hl⟩ := h.cons
  simp only [takeF, hw, hl, if_true]; rfl
theorem needF_len {p : PS} (h : EndsOk p.l) : (needF p).2.l.length ≤ p.l.length := by
  simp only [needF]; split
  · simp
  · exact Nat.le_refl _
theorem mustF_len {p : PS} {s : ByteArray} : (mustF p s).l.length ≤ p.l.length := by
  simp only [mustF]; split
  · simp
  · exact Nat.le_refl _

theorem tv_sw (t : TopoT) (acc : List Int) (n : Int) : some (AObj.var [.msl 9002 ((acc.map rowS).length + 1) 0 ((acc.map rowS).length + 1), .msl 9003 t.links.length 0 t.links.length, .msl 9004 t.hosts.length 0 t.hosts.length]) = some (tvO { t with sw := acc ++ [n] }) := by simp [tvO]
theorem tv_lk (t : TopoT) (n : PortT × PortT) : some (AObj.var [.msl 9002 t.sw.length 0 t.sw.length, .msl 9003 ((t.links.map rowL).length + 1) 0 ((t.links.map rowL).length + 1), .msl 9004 t.hosts.length 0 t.hosts.length]) = some (tvO { t with links := t.links ++ [n] }) := by simp [tvO]
theorem tv_ho (t : TopoT) (n : PortT) : some (AObj.var [.msl 9002 t.sw.length 0 t.sw.length, .msl 9003 t.links.length 0 t.links.length, .msl 9004 ((t.hosts.map rowP).length + 1) 0 ((t.hosts.map rowP).length + 1)]) = some (tvO { t with hosts := t.hosts ++ [n] }) := by simp [tvO]
theorem bf_app {α : Type} (f : α → List D) (l : List α) (x : α) (sz : Nat) (e : TypeId) : some (AObj.buf sz e (l.map f ++ [f x])) = some (AObj.buf sz e ((l ++ [x]).map f)) := by simp

theorem stat_ctr (g : GP) (p : PS) (t : TopoT) (h : EndsOk p.l) (hB : t.sw.length + p.l.length ≤ 30000) (hB2 : t.links.length + p.l.length ≤ 30000) (hB3 : t.hosts.length + p.l.length ≤ 30000) :
    Ctr (ax g).E 95 [.ptr 9000 0, .ptr 9001 0] ((9000, some (objS p)) :: topoH t) (fun o => o = .ret (.tup []) ((9000, some (objS (statF p t).1)) :: topoH (statF p t).2)) := by
  refine Ctr.body (X := ax g) _ 81 [9000, 9001, 9002, 9003, 9004] [] Tryd.func95 rfl rfl rfl rfl (by decide +kernel) rfl rfl ?_
  conv => whnf
  refine CallP.upd rfl (word_ctr' g p h switchB) ?_
  conv => whnf
  refine ifB_intro (fun hw => ?_) (fun hw => ?_)
  · have hw : wordB p switchB = true := hw
    conv => whnf
    refine DrawP.intro (X := ax g) B95_2 (by kernel_rfl) (by decide +kernel) ?_
    conv => whnf
    repeat (refine And.intro (by first | exact rfl | decide | exact Nat.le_of_ble_eq_true rfl | exact ⟨_, rfl⟩ | exact ⟨_, _, rfl⟩ | exact Nat.le_refl _ | exact Int.le_refl _ | omega | (simp only [List.length_map]; omega)) ?_; conv => whnf)
    have q1 := takeF_ok (s := switchB) h
    refine CallD.upd rfl (need_ctr g (takeF p switchB) q1) ?_
    conv => whnf
    repeat (refine And.intro (by first | exact rfl | decide | exact Nat.le_of_ble_eq_true rfl | exact ⟨_, rfl⟩ | exact ⟨_, _, rfl⟩ | exact Nat.le_refl _ | exact Int.le_refl _ | omega | (simp only [List.length_map]; omega)) ?_; conv => whnf)
    have q2 := needF_ok q1
    have q3 := needF_len q1
    have q4 := takeF_len h hw
    have hsf : statF p t = (mustF ⟨(numsF (needF (takeF p switchB)).2.l (t.sw ++ [(needF (takeF p switchB)).1])).1, (needF (takeF p switchB)).2.bad⟩ dot1, { t with sw := (numsF (needF (takeF p switchB)).2.l (t.sw ++ [(needF (takeF p switchB)).1])).2 }) := by simp only [statF, hw]; rfl
    generalize needF (takeF p switchB) = q at q2 q3 hsf
    obtain ⟨n, ⟨ql, qb⟩⟩ := q
    refine And.intro (List.length_map ..).symm ?_
    refine And.intro rfl ?_
    refine And.intro (by show ((t.sw.map rowS).length + 1) * 2 ≤ _; rw [List.length_map]; omega) ?_
    conv => whnf
    repeat (refine And.intro (by first | exact rfl | decide | exact Nat.le_of_ble_eq_true rfl | exact ⟨_, rfl⟩ | exact ⟨_, _, rfl⟩ | exact Nat.le_refl _ | exact Int.le_refl _ | omega | (simp only [List.length_map]; omega)) ?_; conv => whnf)
    refine CallP.upd rfl (number_ctr' g ⟨ql, qb⟩ q2) ?_
    conv => whnf
    repeat (refine And.intro (by first | exact rfl | decide | exact Nat.le_of_ble_eq_true rfl | exact ⟨_, rfl⟩ | exact ⟨_, _, rfl⟩ | exact Nat.le_refl _ | exact Int.le_refl _ | omega | (simp only [List.length_map]; omega)) ?_; conv => whnf)
    have q3 : ql.length ≤ (takeF p switchB).l.length := q3
    refine LoopP.inv (X := ax g) (fun x : List TokT × List Int × List TokT × Bool × Int => { f := [(0, .ptr 9000 0), (1, .ptr 9001 0), (4, .d (.v (.int .u16 x.2.2.2.2))), (5, .bool x.2.2.2.1)], h := (9000, some (objS ⟨x.2.2.1, qb⟩)) :: topoH { t with sw := x.2.1 } })
      (fun x => EndsOk x.1 ∧ numsF x.1 x.2.1 = numsF ql (t.sw ++ [n]) ∧ x.2.1.length + x.1.length ≤ 30000 ∧ x.2.2.1 = (if isN (hd x.1) then x.1.tail else x.1) ∧ x.2.2.2.1 = isN (hd x.1) ∧ x.2.2.2.2 = numN (hd x.1)) (fun x => x.1.length) (ql, t.sw ++ [n], (numberP ⟨ql, qb⟩).l, isN (hd ql), numN (hd ql))
      ⟨q2, rfl, by show (t.sw ++ [n]).length + ql.length ≤ 30000; rw [List.length_append]; show t.sw.length + 1 + _ ≤ _; omega, rfl, rfl, rfl⟩ ⟨⟨rfl, rfl, rfl, rfl, trivial⟩, ⟨fun o h => h, fun o h => by rw [← h]; exact tv_sw t t.sw n, fun o h => by rw [← h]; exact bf_app rowS t.sw n 1 26, fun o h => h, fun o h => h, trivial⟩⟩ fun ⟨rem, acc, l', ok, m⟩ ⟨i1, i2, i3, i4, i5, i6⟩ => ?_
    have i1 : EndsOk rem := i1
    have i2 : numsF rem acc = numsF ql (t.sw ++ [n]) := i2
    have i3 : acc.length + rem.length ≤ 30000 := i3
    have i4 : l' = (if isN (hd rem) then rem.tail else rem) := i4
    have i5 : ok = isN (hd rem) := i5
    have i6 : m = numN (hd rem) := i6
    obtain ⟨t0, r, hr⟩ := i1.cons
    subst hr
    have i4 : l' = (if isN t0 then r else t0 :: r) := i4
    have i5 : ok = isN t0 := i5
    have i6 : m = numN t0 := i6
    conv => whnf
    refine ifB_intro (fun h2 => ?_) (fun h2 => ?_)
    · have h2 : ok = true := h2
      have hN : isN t0 = true := by rw [← i5]; exact h2
      have j4 : l' = r := by rw [i4, hN]; rfl
      have j6 : m = t0.n := by rw [i6, numN, hN]; rfl
      have hEr : EndsOk r := i1.tail (fun e => by rw [isN, e] at hN; exact absurd hN (by decide))
      have i3 : acc.length + (r.length + 1) ≤ 30000 := i3
      clear i4 i6
      subst j4
      conv => whnf
      repeat (refine And.intro (by first | exact rfl | decide | exact Nat.le_of_ble_eq_true rfl | exact ⟨_, rfl⟩ | exact ⟨_, _, rfl⟩ | exact Nat.le_refl _ | exact Int.le_refl _ | omega | (simp only [List.length_map]; omega)) ?_; conv => whnf)
      refine And.intro (List.length_map ..).symm ?_
      refine And.intro rfl ?_
      refine And.intro (by show ((acc.map rowS).length + 1) * 2 ≤ _; rw [List.length_map]; omega) ?_
      conv => whnf
      repeat (refine And.intro (by first | exact rfl | decide | exact Nat.le_of_ble_eq_true rfl | exact ⟨_, rfl⟩ | exact ⟨_, _, rfl⟩ | exact Nat.le_refl _ | exact Int.le_refl _ | omega | (simp only [List.length_map]; omega)) ?_; conv => whnf)
      refine CallP.upd rfl (number_ctr' g ⟨l', qb⟩ hEr) ?_
      conv => whnf
      repeat (refine And.intro (by first | exact rfl | decide | exact Nat.le_of_ble_eq_true rfl | exact ⟨_, rfl⟩ | exact ⟨_, _, rfl⟩ | exact Nat.le_refl _ | exact Int.le_refl _ | omega | (simp only [List.length_map]; omega)) ?_; conv => whnf)
      exact ⟨(l', acc ++ [m], (numberP ⟨l', qb⟩).l, isN (hd l'), numN (hd l')), ⟨hEr, by show numsF l' (acc ++ [m]) = _; rw [← i2, numsF, if_pos hN, j6], by show (acc ++ [m]).length + l'.length ≤ 30000; rw [List.length_append]; show acc.length + 1 + _ ≤ _; omega, rfl, rfl, rfl⟩, Nat.lt_succ_self _, ⟨⟨rfl, rfl, rfl, rfl, trivial⟩, ⟨fun o h => h, fun o h => by rw [← h]; exact tv_sw t acc m, fun o h => by rw [← h]; exact bf_app rowS acc m 1 26, fun o h => h, fun o h => h, trivial⟩⟩⟩
    · have h2 : ok = false := h2
      have hN : isN t0 = false := by rw [← i5]; exact h2
      have j4 : l' = t0 :: r := by rw [i4, hN]; rfl
      have hsf : statF p t = (mustF ⟨t0 :: r, qb⟩ dot1, { t with sw := acc }) := by
        rw [hsf]
        show (mustF ⟨(numsF ql (t.sw ++ [n])).1, qb⟩ dot1, { t with sw := (numsF ql (t.sw ++ [n])).2 }) = _
        rw [← i2, numsF, if_neg (by rw [hN]; simp)]
      clear i4
      subst j4
      conv => whnf
      refine CallP.upd rfl (must_ctr g ⟨t0 :: r, qb⟩ i1 dot1) ?_
      conv => whnf
      refine ⟨⟨(9000, some (objS (statF p t).1)) :: topoH (statF p t).2, ?_⟩⟩
      rw [hsf]
      conv => whnf
      refine And.intro ⟨fun o h => h, fun o h => h, fun o h => h, fun o h => h, fun o h => h, trivial⟩ ?_
      conv => whnf
  · have hw : wordB p switchB = false := hw
    rw [takeF_no hw]
    conv => whnf
    refine CallP.upd rfl (word_ctr' g p h link4) ?_
    conv => whnf
    refine ifB_intro (fun hw2 => ?_) (fun hw2 => ?_)
    · have hw2 : wordB p link4 = true := hw2
      conv => whnf
      have a0 := takeF_ok (s := link4) h
      have a1 := portF_ok a0
      have a2 := mustF_ok (s := dash1) a1
      have a3 := portF_ok a2
      have he : statF p t = (mustF (portF (mustF (portF (takeF p link4)).2 dash1)).2 dot1, { t with links := t.links ++ [((portF (takeF p link4)).1, (portF (mustF (portF (takeF p link4)).2 dash1)).1)] }) := by simp only [statF, hw, hw2]; rfl
      have a4 := takeF_len h hw2
      refine CallP.upd rfl (port_ctr g (takeF p link4) a0) ?_
      generalize portF (takeF p link4) = x1 at a1 a2 a3 he
      obtain ⟨p1, s1⟩ := x1
      conv => whnf
      repeat (refine And.intro (by first | exact rfl | decide | exact Nat.le_of_ble_eq_true rfl | exact ⟨_, rfl⟩ | exact ⟨_, _, rfl⟩ | exact Nat.le_refl _ | exact Int.le_refl _ | omega | (simp only [List.length_map]; omega)) ?_; conv => whnf)
      refine CallP.upd rfl (must_ctr g s1 a1 dash1) ?_
      have a2 : EndsOk (mustF s1 dash1).l := a2
      have a3 : EndsOk (portF (mustF s1 dash1)).2.l := a3
      have he : statF p t = (mustF (portF (mustF s1 dash1)).2 dot1, { t with links := t.links ++ [(p1, (portF (mustF s1 dash1)).1)] }) := he
      generalize mustF s1 dash1 = s2 at a2 a3 he
      conv => whnf
      repeat (refine And.intro (by first | exact rfl | decide | exact Nat.le_of_ble_eq_true rfl | exact ⟨_, rfl⟩ | exact ⟨_, _, rfl⟩ | exact Nat.le_refl _ | exact Int.le_refl _ | omega | (simp only [List.length_map]; omega)) ?_; conv => whnf)
      refine DrawP.intro (X := ax g) B95_10 (by kernel_rfl) (by decide +kernel) ?_
      conv => whnf
      repeat (refine And.intro (by first | exact rfl | decide | exact Nat.le_of_ble_eq_true rfl | exact ⟨_, rfl⟩ | exact ⟨_, _, rfl⟩ | exact Nat.le_refl _ | exact Int.le_refl _ | omega | (simp only [List.length_map]; omega)) ?_; conv => whnf)
      refine CallD.upd rfl (port_ctr g s2 a2) ?_
      generalize portF s2 = x3 at a3 he
      obtain ⟨p3, s3⟩ := x3
      have a3 : EndsOk s3.l := a3
      have he : statF p t = (mustF s3 dot1, { t with links := t.links ++ [(p1, p3)] }) := he
      conv => whnf
      repeat (refine And.intro (by first | exact rfl | decide | exact Nat.le_of_ble_eq_true rfl | exact ⟨_, rfl⟩ | exact ⟨_, _, rfl⟩ | exact Nat.le_refl _ | exact Int.le_refl _ | omega | (simp only [List.length_map]; omega)) ?_; conv => whnf)
      refine And.intro ⟨⟨_, _, rfl, rfl, Nat.le_of_ble_eq_true rfl⟩, ⟨_, _, rfl, rfl, Nat.le_of_ble_eq_true rfl⟩, trivial⟩ ?_
      conv => whnf
      repeat (refine And.intro (by first | exact rfl | decide | exact Nat.le_of_ble_eq_true rfl | exact ⟨_, rfl⟩ | exact ⟨_, _, rfl⟩ | exact Nat.le_refl _ | exact Int.le_refl _ | omega | (simp only [List.length_map]; omega)) ?_; conv => whnf)
      refine And.intro (List.length_map ..).symm ?_
      refine And.intro rfl ?_
      refine And.intro (by show ((t.links.map rowL).length + 1) * 8 ≤ _; rw [List.length_map]; omega) ?_
      conv => whnf
      repeat (refine And.intro (by first | exact rfl | decide | exact Nat.le_of_ble_eq_true rfl | exact ⟨_, rfl⟩ | exact ⟨_, _, rfl⟩ | exact Nat.le_refl _ | exact Int.le_refl _ | omega | (simp only [List.length_map]; omega)) ?_; conv => whnf)
      refine CallP.upd rfl (must_ctr g s3 a3 dot1) ?_
      conv => whnf
      refine ⟨⟨(9000, some (objS (statF p t).1)) :: topoH (statF p t).2, ?_⟩⟩
      rw [he]
      conv => whnf
      refine And.intro ⟨fun o h => h, fun o h => by rw [← h]; exact tv_lk t (p1, p3), fun o h => h, fun o h => by rw [← h]; exact bf_app rowL t.links (p1, p3) 4 64, fun o h => h, trivial⟩ ?_
      conv => whnf
    · have hw2 : wordB p link4 = false := hw2
      rw [takeF_no hw2]
      conv => whnf
      refine CallP.upd rfl (word_ctr' g p h host4) ?_
      conv => whnf
      refine ifB_intro (fun hw3 => ?_) (fun hw3 => ?_)
      · have hw3 : wordB p host4 = true := hw3
        have a0 := takeF_ok (s := host4) h
        have a1 := portF_ok a0
        have he : statF p t = (mustF (portF (takeF p host4)).2 dot1, { t with hosts := t.hosts ++ [(portF (takeF p host4)).1] }) := by simp only [statF, hw, hw2, hw3]; rfl
        conv => whnf
        refine DrawP.intro (X := ax g) B95_12 (by kernel_rfl) (by decide +kernel) ?_
        conv => whnf
        repeat (refine And.intro (by first | exact rfl | decide | exact Nat.le_of_ble_eq_true rfl | exact ⟨_, rfl⟩ | exact ⟨_, _, rfl⟩ | exact Nat.le_refl _ | exact Int.le_refl _ | omega | (simp only [List.length_map]; omega)) ?_; conv => whnf)
        have a4 := takeF_len h hw3
        refine CallD.upd rfl (port_ctr g (takeF p host4) a0) ?_
        generalize portF (takeF p host4) = x1 at a1 he
        obtain ⟨p1, s1⟩ := x1
        have a1 : EndsOk s1.l := a1
        have he : statF p t = (mustF s1 dot1, { t with hosts := t.hosts ++ [p1] }) := he
        conv => whnf
        repeat (refine And.intro (by first | exact rfl | decide | exact Nat.le_of_ble_eq_true rfl | exact ⟨_, rfl⟩ | exact ⟨_, _, rfl⟩ | exact Nat.le_refl _ | exact Int.le_refl _ | omega | (simp only [List.length_map]; omega)) ?_; conv => whnf)
        refine And.intro (List.length_map ..).symm ?_
        refine And.intro rfl ?_
        refine And.intro (by show ((t.hosts.map rowP).length + 1) * 4 ≤ _; rw [List.length_map]; omega) ?_
        conv => whnf
        repeat (refine And.intro (by first | exact rfl | decide | exact Nat.le_of_ble_eq_true rfl | exact ⟨_, rfl⟩ | exact ⟨_, _, rfl⟩ | exact Nat.le_refl _ | exact Int.le_refl _ | omega | (simp only [List.length_map]; omega)) ?_; conv => whnf)
        refine CallP.upd rfl (must_ctr g s1 a1 dot1) ?_
        conv => whnf
        refine ⟨⟨(9000, some (objS (statF p t).1)) :: topoH (statF p t).2, ?_⟩⟩
        rw [he]
        conv => whnf
        refine And.intro ⟨fun o h => h, fun o h => by rw [← h]; exact tv_ho t p1, fun o h => h, fun o h => h, fun o h => by rw [← h]; exact bf_app rowP t.hosts p1 2 63, trivial⟩ ?_
        conv => whnf
      · have hw3 : wordB p host4 = false := hw3
        rw [takeF_no hw3]
        conv => whnf
        repeat (refine And.intro (by first | exact rfl | decide | exact Nat.le_of_ble_eq_true rfl | exact ⟨_, rfl⟩ | exact ⟨_, _, rfl⟩ | exact Nat.le_refl _ | exact Int.le_refl _ | omega | (simp only [List.length_map]; omega)) ?_; conv => whnf)
        refine CallP.upd rfl (must_ctr g ⟨p.l, true⟩ h dot1) ?_
        conv => whnf
        refine ⟨⟨(9000, some (objS (statF p t).1)) :: topoH (statF p t).2, ?_⟩⟩
        have he : statF p t = (mustF ⟨p.l, true⟩ dot1, t) := by simp only [statF, hw, hw2, hw3]; rfl
        rw [he]
        conv => whnf
        refine And.intro ⟨fun o h => h, fun o h => h, fun o h => h, fun o h => h, fun o h => h, trivial⟩ ?_
        conv => whnf

theorem numsF_len : ∀ {l : List TokT} {acc : List Int}, (numsF l acc).2.length + (numsF l acc).1.length = acc.length + l.length
  | [], acc => rfl
  | t :: r, acc => by
    simp only [numsF]
    split
    · rw [numsF_len]; simp; omega
    · rfl
theorem numsF_le : ∀ {l : List TokT} {acc : List Int}, (numsF l acc).1.length ≤ l.length
  | [], acc => Nat.le_refl _
  | t :: r, acc => by
    simp only [numsF]
    split
    · have := numsF_le (l := r) (acc := acc ++ [t.n]); simp; omega
    · exact Nat.le_refl _
theorem portF_len {p : PS} (h : EndsOk p.l) : (portF p).2.l.length ≤ p.l.length := by
  have h1 := needF_len h
  have h2 := mustF_len (p := (needF p).2) (s := ⟨#[58]⟩)
  have h3 := needF_len (mustF_ok (s := ⟨#[58]⟩) (needF_ok h))
  simp only [portF]; omega
def psM (p : PS) : Nat := 2 * p.l.length + (if p.bad then 0 else 1)
theorem mustF_m {p : PS} {s : ByteArray} : psM (mustF p s) ≤ psM p := by
  have := mustF_len (p := p) (s := s)
  have hb : (mustF p s).bad = (!wordB p s || p.bad) := rfl
  simp only [psM, hb]
  cases p.bad <;> cases wordB p s <;> simp <;> omega
/-- What a statement leaves: fewer tokens, or a fault; no more in the topology than tokens were taken. -/
theorem statF_ok {p : PS} {t : TopoT} (h : EndsOk p.l) (hb : p.bad = false) : EndsOk (statF p t).1.l ∧ psM (statF p t).1 < psM p ∧
    (statF p t).2.sw.length + (statF p t).1.l.length ≤ t.sw.length + p.l.length ∧ (statF p t).2.links.length + (statF p t).1.l.length ≤ t.links.length + p.l.length ∧ (statF p t).2.hosts.length + (statF p t).1.l.length ≤ t.hosts.length + p.l.length := by
  have key : ∀ x : PS × TopoT, EndsOk x.1.l → psM x.1 < psM p → x.2.sw.length + x.1.l.length ≤ t.sw.length + p.l.length → x.2.links.length + x.1.l.length ≤ t.links.length + p.l.length → x.2.hosts.length + x.1.l.length ≤ t.hosts.length + p.l.length →
      EndsOk (mustF x.1 dot1).l ∧ psM (mustF x.1 dot1) < psM p ∧ x.2.sw.length + (mustF x.1 dot1).l.length ≤ t.sw.length + p.l.length ∧ x.2.links.length + (mustF x.1 dot1).l.length ≤ t.links.length + p.l.length ∧ x.2.hosts.length + (mustF x.1 dot1).l.length ≤ t.hosts.length + p.l.length := fun x h1 h2 h3 h4 h5 => by
    have q1 := mustF_len (p := x.1) (s := dot1)
    have q2 := mustF_m (p := x.1) (s := dot1)
    exact ⟨mustF_ok h1, by omega, by omega, by omega, by omega⟩
  have mp : psM p = 2 * p.l.length + 1 := by simp [psM, hb]
  have ml : ∀ q : PS, q.l.length + 1 ≤ p.l.length → psM q < psM p := fun q hq => by
    rw [mp]; simp only [psM]; split <;> omega
  unfold statF
  refine key _ ?_ ?_ ?_ ?_ ?_
  all_goals
    split
    · rename_i hw
      have a0 := takeF_ok (s := switchB) h
      have a1 := takeF_len h hw
      have a2 := needF_ok a0
      have a3 := needF_len a0
      have a4 := numsF_len (l := (needF (takeF p switchB)).2.l) (acc := t.sw ++ [(needF (takeF p switchB)).1])
      have a5 : (t.sw ++ [(needF (takeF p switchB)).1]).length = t.sw.length + 1 := by simp
      have a6 : (numsF (needF (takeF p switchB)).2.l (t.sw ++ [(needF (takeF p switchB)).1])).1.length ≤ (needF (takeF p switchB)).2.l.length := numsF_le
      first
      | exact numsF_ok a2
      | (refine ml _ ?_; show (numsF _ _).1.length + 1 ≤ _; omega)
      | (show (numsF _ _).2.length + (numsF _ _).1.length ≤ _; omega)
      | (show t.links.length + (numsF _ _).1.length ≤ _; omega)
      | (show t.hosts.length + (numsF _ _).1.length ≤ _; omega)
    · split
      · rename_i hw
        have a0 := takeF_ok (s := link4) h
        have a1 := takeF_len h hw
        have a2 := portF_ok a0
        have a3 := portF_len a0
        have a4 := mustF_ok (s := dash1) a2
        have a5 := mustF_len (p := (portF (takeF p link4)).2) (s := dash1)
        have a6 := portF_ok a4
        have a7 := portF_len a4
        first
        | exact a6
        | (refine ml _ ?_; show (portF _).2.l.length + 1 ≤ _; omega)
        | (show t.sw.length + (portF _).2.l.length ≤ _; omega)
        | (show (t.links ++ [_]).length + (portF _).2.l.length ≤ _; rw [List.length_append]; show t.links.length + 1 + _ ≤ _; omega)
        | (show t.hosts.length + (portF _).2.l.length ≤ _; omega)
      · split
        · rename_i hw
          have a0 := takeF_ok (s := host4) h
          have a1 := takeF_len h hw
          have a2 := portF_ok a0
          have a3 := portF_len a0
          first
          | exact a2
          | (refine ml _ ?_; show (portF _).2.l.length + 1 ≤ _; omega)
          | (show t.sw.length + (portF _).2.l.length ≤ _; omega)
          | (show t.links.length + (portF _).2.l.length ≤ _; omega)
          | (show (t.hosts ++ [_]).length + (portF _).2.l.length ≤ _; rw [List.length_append]; show t.hosts.length + 1 + _ ≤ _; omega)
        · first
          | exact h
          | (rw [mp]; show 2 * p.l.length + 0 < _; omega)
          | exact Nat.le_refl _
end Go.Ax
