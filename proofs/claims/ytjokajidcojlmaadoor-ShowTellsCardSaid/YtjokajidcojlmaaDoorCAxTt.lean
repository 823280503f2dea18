import Derived.Test.YtjokajidcojlmaaDoorCAxBu
import Derived.Test.YtjokajidcojlmaaDoorCAxTo
import Derived.Test.YtjokajidcojlmaaDoorCAxLib
import Derived.Test.YtjokajidcojlmaaDoorCAxLj
import Derived.Test.YtjokajidcojlmaaDoorCAxCh

/- topo's text. -/
namespace Go.Ax
open Go.Proofs Go.Lib
set_option maxRecDepth 10000

abbrev OkP (p : PortT) : Prop := 0 ≤ p.1 ∧ p.1 < 65536 ∧ 0 ≤ p.2 ∧ p.2 < 65536
def colonB : ByteArray := ⟨#[58]⟩
def sayB (p : PortT) : ByteArray := (digB p.1.toNat ++ colonB) ++ digB p.2.toNat
theorem i64_conv {n : Int} (h : 0 ≤ n) (h1 : n < 65536) : IntKind.i64.wrap n = ((n.toNat : Nat) : Int) := by rw [IntKind.wrap_i64]; omega
theorem digB_len {n : Nat} (h : n < 65536) : (digB n).size ≤ 5 := dec_len5 n (by omega)
theorem sayB_len {p : PortT} (h : OkP p) : (sayB p).size ≤ 11 := by
  have h1 := digB_len (n := p.1.toNat) (by omega)
  have h2 := digB_len (n := p.2.toNat) (by omega)
  simp only [sayB, ByteArray.size_append]
  have : colonB.size = 1 := rfl
  omega

theorem say_ctr (g : GP) (hg : ∀ w, g.G w → PowG w) (p : PortT) (hp : OkP p) : Ctr (ax g).E 94 [.dagg (rowP p)] [] (fun o => o = .ret (.str (sayB p)) []) := by
  obtain ⟨p1, p2, p3, p4⟩ := hp
  refine Ctr.body (X := ax g) _ 13 [] [.tmp 2] Tryd.func94 rfl rfl rfl rfl (by decide +kernel) rfl rfl ?_
  conv => whnf
  repeat (refine And.intro (by first | exact rfl | decide | exact Nat.le_of_ble_eq_true rfl | exact ⟨_, rfl⟩ | exact ⟨_, _, rfl⟩ | exact Nat.le_refl _ | exact Int.le_refl _ | omega | (simp only [List.length_map]; omega)) ?_; conv => whnf)
  refine DrawP.intro (X := ax g) (id := 1) B94_1 (by kernel_rfl) (by decide +kernel) ?_
  conv => whnf
  repeat (refine And.intro (by first | exact rfl | decide | exact Nat.le_of_ble_eq_true rfl | exact ⟨_, rfl⟩ | exact ⟨_, _, rfl⟩ | exact Nat.le_refl _ | exact Int.le_refl _ | omega | (simp only [List.length_map]; omega)) ?_; conv => whnf)
  refine CallD.arg (args' := [.i64 (p.1.toNat : Int)]) ?_ (CallD.det (itoa_ctr g hg _ (by omega)) ?_)
  · show [AV.d (.v (.int .i64 (IntKind.i64.wrap p.1)))] = _
    rw [i64_conv p1 p2]
  have d1 := digB_len (n := p.1.toNat) (by omega)
  have d2 := digB_len (n := p.2.toNat) (by omega)
  refine And.intro (by show (digB p.1.toNat).size + 1 ≤ _; omega) ?_
  conv => whnf
  repeat (refine And.intro (by first | exact rfl | decide | exact Nat.le_of_ble_eq_true rfl | exact ⟨_, rfl⟩ | exact ⟨_, _, rfl⟩ | exact Nat.le_refl _ | exact Int.le_refl _ | omega | (simp only [List.length_map]; omega)) ?_; conv => whnf)
  refine CallD.arg (args' := [.i64 (p.2.toNat : Int)]) ?_ (CallD.det (itoa_ctr g hg _ (by omega)) ?_)
  · show [AV.d (.v (.int .i64 (IntKind.i64.wrap p.2)))] = _
    rw [i64_conv p3 p4]
  refine And.intro (by show (digB p.1.toNat ++ colonB).size + (digB p.2.toNat).size ≤ _; rw [ByteArray.size_append]; show (digB p.1.toNat).size + 1 + _ ≤ _; omega) ?_
  conv => whnf
  repeat (refine And.intro (by first | exact rfl | decide | exact Nat.le_of_ble_eq_true rfl | exact ⟨_, rfl⟩ | exact ⟨_, _, rfl⟩ | exact Nat.le_refl _ | exact Int.le_refl _ | omega | (simp only [List.length_map]; omega)) ?_; conv => whnf)
  refine ⟨⟨[], ?_⟩⟩
  conv => whnf
  rfl

/-- A builder that was just made, as any builder. -/
theorem Ctr.fromNew {E : Env} {f : FuncId} {args : List AV} {post : AOut → Prop} {T : TypeId} (hT : BldT T) (h : Ctr E f args [(9000, some (bldO ⟨#[]⟩))] post) : Ctr E f args [(9000, some (.tvar T zB))] post := by
  refine ⟨h.1, fun w Im ρ vs hG hIm hgl hsz hra hrel => ?_⟩
  have hr2 : HRel w Im ρ [(9000, some (bldO ⟨#[]⟩))] (fun _ => True) := by
    refine ⟨fun r o hr => ?_, fun r r' o o' l l' hr hr' hne => absurd ((lkH_one hr).1.trans (lkH_one hr').1.symm) hne⟩
    obtain ⟨rfl, rfl⟩ := lkH_one hr
    obtain ⟨l, hl, hro, hf⟩ := hrel.obj 9000 (.tvar T zB) rfl
    obtain ⟨h1, h2, b, ms, h4, h5, h6, h7⟩ := hro
    have h6 : ms.size = 2 := h6
    have hm0 : ms[0]? = some (.pointer none) := by
      have h0 : 0 < ms.size := by omega
      have := (h7 0 ms[0] _ (Array.getElem?_eq_getElem h0) rfl).bool
      rw [Array.getElem?_eq_getElem h0, this]
    have hm1 : ms[1]? = some (.slice none 0 0) := by
      have h0 : 1 < ms.size := by omega
      have := (h7 1 ms[1] _ (Array.getElem?_eq_getElem h0) rfl).bool
      rw [Array.getElem?_eq_getElem h0, this]
    exact ⟨l, hl, ⟨h1, ⟨b, h4⟩, Bld.keep, b, T, ms, h4, h5, h6, .inl ⟨rfl, hT, h2, hm0, hm1⟩⟩, hf⟩
  have hT' : ∀ k, TIn ρ [(9000, some (bldO ⟨#[]⟩))] k → TIn ρ [(9000, some (.tvar T zB))] k := fun k ⟨r, o, l, hr, q1, q2⟩ => by
    obtain ⟨rfl, rfl⟩ := lkH_one hr
    exact ⟨9000, _, l, rfl, q1, q2⟩
  have hA : ∀ {w' : World} {Im' : Nat → Prop} {ρ' : Nat → Option Loc} {ho : HL}, After w Im ρ [(9000, some (bldO ⟨#[]⟩))] w' Im' ρ' ho → After w Im ρ [(9000, some (.tvar T zB))] w' Im' ρ' ho := fun H =>
    ⟨⟨H.grows.size, H.grows.os, H.grows.tape, H.grows.output, fun k hk hn => H.grows.block k hk fun h => hn (hT' k h)⟩, H.im, fun k hk => by
      obtain ⟨p1, p2⟩ := H.imn k hk
      exact ⟨p1, p2.imp id fun h => h.imp id (hT' k)⟩, ⟨fun r o hr => by
      obtain ⟨l, q1, q2, q3⟩ := H.rel.obj r o hr
      exact ⟨l, q1, q2, fun b hb => by obtain ⟨k1, k2, k3⟩ := q3 b hb; exact ⟨k1, k2, k3.imp id (hT' b)⟩⟩, H.rel.dis⟩, fun r o hr l' hl' => by
      obtain ⟨rfl, rfl⟩ := lkH_one hr
      exact H.anc 9000 _ rfl l' hl', H.cl⟩
  refine (h.2 w Im ρ vs hG hIm hgl hsz hra hr2).mono fun e w' he => ?_
  cases e with
  | returned v => obtain ⟨res, ho, Im', ρ', h1, h2, h3, A⟩ := he; exact ⟨res, ho, Im', ρ', h1, h2, h3, hA A⟩
  | panicked ch => obtain ⟨ho, Im', ρ', h1, A⟩ := he; exact ⟨ho, Im', ρ', h1, hA A⟩
  | outgrown => exact he

/-- A call that uses one object up. -/
theorem CallP.ends {E : Env} {k : Kn} {f : FuncId} {args : List AV} {s : St} {K : AV → HL → Prop} {KP : List PanicEntry → HL → Prop} {res : AV} {r : Nat} {ob : AObj} (hr : lkH r s.h = some ob) (h : Ctr E f args [(r, some ob)] fun o => o = .ret res []) (hk : K res ((r, none) :: s.h)) : CallP E k f args s K KP :=
  ⟨_, _, h, fun q o hq => by obtain ⟨rfl, rfl⟩ := lkH_one hq; exact hr, fun res' ho e => by
    injection e with e1 e2; subst e1; subst e2
    exact ⟨fun q o hq => by simp [lkH] at hq, hk⟩, fun ch ho e => by simp at e⟩

theorem write3 (g : GP) (bs s : ByteArray) (hs : bs.size + s.size ≤ 140737488355328) (h0 : s.size ≠ 0) : Ctr (ax g).E 76 [.ptr 3 0, .str s] [(3, some (bldO bs))] (fun o => o = .ret (.tup [.i64 s.size, .d (.v .nilIface)]) [(3, some (bldO (bs ++ s)))]) :=
  (write_ctr g bs s hs h0).swap 3 9000
theorem string3 (g : GP) (bs : ByteArray) : Ctr (ax g).E 74 [.ptr 3 0] [(3, some (bldO bs))] (fun o => o = .ret (.str bs) []) :=
  (bstring_ctr g bs).swap 3 9000
theorem empty_app (s : ByteArray) : (⟨#[]⟩ : ByteArray) ++ s = s := by apply ByteArray.ext; rw [ByteArray.data_append]; simp
theorem writeNew3 (g : GP) (s : ByteArray) (hs : s.size ≤ 140737488355328) (h0 : s.size ≠ 0) : Ctr (ax g).E 76 [.ptr 3 0, .str s] [(3, some (.tvar 108 zB))] (fun o => o = .ret (.tup [.i64 s.size, .d (.v .nilIface)]) [(3, some (bldO s))]) := by
  have := (Ctr.fromNew bldT108 (write_ctr g ⟨#[]⟩ s (by show 0 + s.size ≤ _; omega) h0)).swap 3 9000
  rw [empty_app] at this
  exact this

def switchB : ByteArray := ⟨#[115, 119, 105, 116, 99, 104]⟩
def linkB : ByteArray := ⟨#[108, 105, 110, 107, 32]⟩
def hostB : ByteArray := ⟨#[104, 111, 115, 116, 32]⟩
def dashB : ByteArray := ⟨#[32, 45, 32]⟩
def dotB : ByteArray := ⟨#[32, 46, 10]⟩
def spB : ByteArray := ⟨#[32]⟩
def swB (b : ByteArray) (n : Int) : ByteArray := b ++ (spB ++ digB n.toNat)
def lnB (b : ByteArray) (l : PortT × PortT) : ByteArray := b ++ ((((linkB ++ sayB l.1) ++ dashB) ++ sayB l.2) ++ dotB)
def hoB (b : ByteArray) (p : PortT) : ByteArray := b ++ ((hostB ++ sayB p) ++ dotB)
def swT (t : TopoT) : ByteArray := if t.sw.length = 0 then ⟨#[]⟩ else t.sw.foldl swB switchB ++ dotB
def textF (t : TopoT) : ByteArray := t.hosts.foldl hoB (t.links.foldl lnB (swT t))

structure OkT (t : TopoT) : Prop where
  sw : ∀ n ∈ t.sw, 0 ≤ n ∧ n < 65536
  links : ∀ l ∈ t.links, OkP l.1 ∧ OkP l.2
  hosts : ∀ p ∈ t.hosts, OkP p
structure SmallT (t : TopoT) : Prop where
  sw : t.sw.length ≤ 100000
  links : t.links.length ≤ 100000
  hosts : t.hosts.length ≤ 100000

theorem foldl_next {α β : Type} (f : β → α → β) (b : β) (l : List α) (i : Nat) (h : i < l.length) : (l.take (i + 1)).foldl f b = f ((l.take i).foldl f b) l[i] := by
  rw [List.take_succ_eq_append_getElem h, List.foldl_append]; rfl
theorem foldl_size {α : Type} (f : ByteArray → α → ByteArray) (k : Nat) : ∀ (l : List α) (b : ByteArray), (∀ x ∈ l, ∀ b, (f b x).size ≤ b.size + k) → (l.foldl f b).size ≤ b.size + k * l.length
  | [], b, _ => by simp
  | x :: l, b, h => by
    have h1 := foldl_size f k l (f b x) fun y hy => h y (List.mem_cons_of_mem _ hy)
    have h2 := h x (List.mem_cons_self ..) b
    simp only [List.foldl_cons, List.length_cons, Nat.mul_add, Nat.mul_one]
    omega
theorem swB_size {n : Int} (h : 0 ≤ n ∧ n < 65536) (b : ByteArray) : (swB b n).size ≤ b.size + 6 := by
  have := digB_len (n := n.toNat) (by omega)
  have h2 : spB.size = 1 := rfl
  simp only [swB, ByteArray.size_append]; omega
theorem lnB_size {l : PortT × PortT} (h : OkP l.1 ∧ OkP l.2) (b : ByteArray) : (lnB b l).size ≤ b.size + 33 := by
  have h1 := sayB_len h.1
  have h2 := sayB_len h.2
  have h3 : linkB.size = 5 := rfl
  have h4 : dashB.size = 3 := rfl
  have h5 : dotB.size = 3 := rfl
  simp only [lnB, ByteArray.size_append]; omega
theorem hoB_size {p : PortT} (h : OkP p) (b : ByteArray) : (hoB b p).size ≤ b.size + 19 := by
  have h1 := sayB_len h
  have h3 : hostB.size = 5 := rfl
  have h5 : dotB.size = 3 := rfl
  simp only [hoB, ByteArray.size_append]; omega

theorem text_ctr (g : GP) (hg : ∀ w, g.G w → PowG w) (t : TopoT) (ht : OkT t) (hs : SmallT t) : Ctr (ax g).E 31 [.dagg (rowT t)] [] (fun o => o = .ret (.str (textF t)) []) := by
  obtain ⟨hs1, hs2, hs3⟩ := hs
  have hz1 : (swT t).size ≤ 600010 := by
    unfold swT; split
    · show 0 ≤ _; omega
    · have := foldl_size swB 6 t.sw switchB fun n hn b => swB_size (ht.sw n hn) b
      have h2 : switchB.size = 6 := rfl
      have h3 : dotB.size = 3 := rfl
      rw [ByteArray.size_append]; omega
  have hz2 : ∀ i, ((t.links.take i).foldl lnB (swT t)).size ≤ 4000000 := fun i => by
    have := foldl_size lnB 33 (t.links.take i) (swT t) fun n hn b => lnB_size (ht.links n (List.mem_of_mem_take hn)) b
    have h2 : (t.links.take i).length ≤ t.links.length := by simp; omega
    omega
  have hz3 : ∀ i, ((t.hosts.take i).foldl hoB (t.links.foldl lnB (swT t))).size ≤ 6000000 := fun i => by
    have := foldl_size hoB 19 (t.hosts.take i) (t.links.foldl lnB (swT t)) fun n hn b => hoB_size (ht.hosts n (List.mem_of_mem_take hn)) b
    have h2 : (t.hosts.take i).length ≤ t.hosts.length := by simp; omega
    have h3 := hz2 t.links.length
    rw [List.take_length] at h3
    omega
  have hz0 : ∀ i, ((t.sw.take i).foldl swB switchB).size ≤ 600006 := fun i => by
    have := foldl_size swB 6 (t.sw.take i) switchB fun n hn b => swB_size (ht.sw n (List.mem_of_mem_take hn)) b
    have h2 : (t.sw.take i).length ≤ t.sw.length := by simp; omega
    have h3 : switchB.size = 6 := rfl
    omega
  refine Ctr.body (X := ax g) _ 62 [] [.tmp 2] Tryd.func31 rfl rfl rfl rfl (by decide +kernel) rfl rfl ?_
  conv => whnf
  repeat (refine And.intro (by first | exact rfl | decide | exact Nat.le_of_ble_eq_true rfl | exact ⟨_, rfl⟩ | exact ⟨_, _, rfl⟩ | exact Nat.le_refl _ | exact Int.le_refl _ | omega | (simp only [List.length_map]; omega)) ?_; conv => whnf)
  refine ifB_intro (fun h => ?_) (fun h => ?_)
  · conv => whnf
    refine CallP.upd rfl (writeNew3 g switchB (by decide) (by decide)) ?_
    conv => whnf
    repeat (refine And.intro (by first | exact rfl | decide | exact Nat.le_of_ble_eq_true rfl | exact ⟨_, rfl⟩ | exact ⟨_, _, rfl⟩ | exact Nat.le_refl _ | exact Int.le_refl _ | omega | (simp only [List.length_map]; omega)) ?_; conv => whnf)
    refine LoopP.inv (X := ax g) (fun i : Nat => { f := [(1, .ptr 1 0), (2, .str ⟨#[]⟩), (3, .ptr 3 0), (16, .d (.sl false 1 (t.sw.map rowS))), (17, .i64 t.sw.length), (18, .i64 i)], h := [(1, some (.dvar 3 (rowT t))), (3, some (bldO ((t.sw.take i).foldl swB switchB)))] }) (fun i => i ≤ t.sw.length) (fun i => t.sw.length - i) 0 (Nat.zero_le _) ⟨⟨rfl, rfl, rfl, rfl, AV.int_eq (by simp [rowT, D.els]), rfl, trivial⟩, ⟨fun o h => h, fun o h => h, trivial⟩⟩ fun i hi => ?_
    conv => whnf
    refine ifB_intro (fun h2 => ?_) (fun h2 => ?_)
    · have hlt : i < t.sw.length := by simpa using h2
      conv => whnf
      refine And.intro (by omega) ?_
      refine And.intro (by simpa using hlt) ?_
      conv => whnf
      rw [getD_map rowS t.sw i [] hlt]
      obtain ⟨k1, k2⟩ := ht.sw t.sw[i] (List.getElem_mem hlt)
      conv => whnf
      repeat (refine And.intro (by first | exact rfl | decide | exact Nat.le_of_ble_eq_true rfl | exact ⟨_, rfl⟩ | exact ⟨_, _, rfl⟩ | exact Nat.le_refl _ | exact Int.le_refl _ | omega | (simp only [List.length_map]; omega)) ?_; conv => whnf)
      refine CallP.arg (args' := [.i64 (t.sw[i].toNat : Int)]) ?_ (CallP.det (itoa_ctr g hg _ (by omega)) ?_)
      · show [AV.d (.v (.int .i64 (IntKind.i64.wrap t.sw[i])))] = _
        rw [i64_conv k1 k2]
      have d1 := digB_len (n := t.sw[i].toNat) (by omega)
      conv => whnf
      refine And.intro (by show 1 + (digB t.sw[i].toNat).size ≤ _; omega) ?_
      conv => whnf
      have hz := hz0 i
      have hq : (spB ++ digB t.sw[i].toNat).size ≤ 6 ∧ (spB ++ digB t.sw[i].toNat).size ≠ 0 := by
        have h2 : spB.size = 1 := rfl
        rw [ByteArray.size_append]; omega
      refine CallP.upd rfl (write3 g ((t.sw.take i).foldl swB switchB) (spB ++ digB t.sw[i].toNat) (by omega) hq.2) ?_
      conv => whnf
      exact ⟨i + 1, by omega, by omega, ⟨⟨rfl, rfl, rfl, rfl, rfl, AV.int_eq (i64_succ (by omega)), trivial⟩, ⟨fun o h => h, fun o h => by rw [← h, foldl_next swB switchB t.sw i hlt]; rfl, trivial⟩⟩⟩
    · have hge : t.sw.length ≤ i := by simpa using h2
      have hsw : (t.sw.take i).foldl swB switchB ++ dotB = swT t := by
        have h : 0 < t.sw.length := by simpa [rowT, D.els] using h
        rw [List.take_of_length_le hge, swT, if_neg (by omega)]
      conv => whnf
      have hz := hz0 i
      refine CallP.upd rfl (write3 g ((t.sw.take i).foldl swB switchB) dotB (by show _ + 3 ≤ _; omega) (by decide)) ?_
      conv => whnf
      repeat (refine And.intro (by first | exact rfl | decide | exact Nat.le_of_ble_eq_true rfl | exact ⟨_, rfl⟩ | exact ⟨_, _, rfl⟩ | exact Nat.le_refl _ | exact Int.le_refl _ | omega | (simp only [List.length_map]; omega)) ?_; conv => whnf)
      refine LoopP.inv (X := ax g) (fun i : Nat => { f := [(1, .ptr 1 0), (2, .str ⟨#[]⟩), (3, .ptr 3 0), (30, .d (.sl false 4 (t.links.map rowL))), (31, .i64 t.links.length), (32, .i64 i)], h := [(1, some (.dvar 3 (rowT t))), (3, some (bldO ((t.links.take i).foldl lnB (swT t))))] }) (fun i => i ≤ t.links.length) (fun i => t.links.length - i) 0 (Nat.zero_le _) ⟨⟨rfl, rfl, rfl, rfl, AV.int_eq (by simp [rowT, D.els]), rfl, trivial⟩, ⟨fun o h => h, fun o h => by rw [← h, hsw]; rfl, trivial⟩⟩ fun i hi => ?_
      conv => whnf
      refine ifB_intro (fun h2 => ?_) (fun h2 => ?_)
      · have hlt : i < t.links.length := by simpa using h2
        conv => whnf
        refine And.intro (by omega) ?_
        refine And.intro (by simpa using hlt) ?_
        conv => whnf
        rw [getD_map rowL t.links i [] hlt]
        obtain ⟨k1, k2⟩ := ht.links t.links[i] (List.getElem_mem hlt)
        have d1 := sayB_len k1
        have d2 := sayB_len k2
        conv => whnf
        repeat (refine And.intro (by first | exact rfl | decide | exact Nat.le_of_ble_eq_true rfl | exact ⟨_, rfl⟩ | exact ⟨_, _, rfl⟩ | exact Nat.le_refl _ | exact Int.le_refl _ | omega | (simp only [List.length_map]; omega)) ?_; conv => whnf)
        refine DrawP.intro (X := ax g) (id := 13) B31_13 (by kernel_rfl) (by decide +kernel) ?_
        conv => whnf
        repeat (refine And.intro (by first | exact rfl | decide | exact Nat.le_of_ble_eq_true rfl | exact ⟨_, rfl⟩ | exact ⟨_, _, rfl⟩ | exact Nat.le_refl _ | exact Int.le_refl _ | omega | (simp only [List.length_map]; omega)) ?_; conv => whnf)
        refine CallD.det (say_ctr g hg t.links[i].1 k1) ?_
        conv => whnf
        refine And.intro (by show 5 + (sayB t.links[i].1).size ≤ _; omega) ?_
        conv => whnf
        refine And.intro (by show (linkB ++ sayB t.links[i].1).size + 3 ≤ _; rw [ByteArray.size_append]; show 5 + _ + _ ≤ _; omega) ?_
        conv => whnf
        repeat (refine And.intro (by first | exact rfl | decide | exact Nat.le_of_ble_eq_true rfl | exact ⟨_, rfl⟩ | exact ⟨_, _, rfl⟩ | exact Nat.le_refl _ | exact Int.le_refl _ | omega | (simp only [List.length_map]; omega)) ?_; conv => whnf)
        refine CallD.det (say_ctr g hg t.links[i].2 k2) ?_
        conv => whnf
        refine And.intro (by show ((linkB ++ sayB t.links[i].1) ++ dashB).size + (sayB t.links[i].2).size ≤ _; rw [ByteArray.size_append, ByteArray.size_append]; show 5 + _ + 3 + _ ≤ _; omega) ?_
        conv => whnf
        refine And.intro (by show (((linkB ++ sayB t.links[i].1) ++ dashB) ++ sayB t.links[i].2).size + 3 ≤ _; rw [ByteArray.size_append, ByteArray.size_append, ByteArray.size_append]; show 5 + _ + 3 + _ + _ ≤ _; omega) ?_
        conv => whnf
        have hz := hz2 i
        have hq : ((((linkB ++ sayB t.links[i].1) ++ dashB) ++ sayB t.links[i].2) ++ dotB).size ≤ 33 ∧ ((((linkB ++ sayB t.links[i].1) ++ dashB) ++ sayB t.links[i].2) ++ dotB).size ≠ 0 := by
          rw [ByteArray.size_append, ByteArray.size_append, ByteArray.size_append, ByteArray.size_append]; show 5 + _ + 3 + _ + 3 ≤ 33 ∧ 5 + _ + 3 + _ + 3 ≠ 0; omega
        refine CallD.upd rfl (write3 g ((t.links.take i).foldl lnB (swT t)) ((((linkB ++ sayB t.links[i].1) ++ dashB) ++ sayB t.links[i].2) ++ dotB) (by omega) hq.2) ?_
        conv => whnf
        repeat (refine And.intro (by first | exact rfl | decide | exact Nat.le_of_ble_eq_true rfl | exact ⟨_, rfl⟩ | exact ⟨_, _, rfl⟩ | exact Nat.le_refl _ | exact Int.le_refl _ | omega | (simp only [List.length_map]; omega)) ?_; conv => whnf)
        exact ⟨i + 1, by omega, by omega, ⟨⟨rfl, rfl, rfl, rfl, rfl, AV.int_eq (i64_succ (by omega)), trivial⟩, ⟨fun o h => h, fun o h => by rw [← h, foldl_next lnB (swT t) t.links i hlt]; rfl, trivial⟩⟩⟩
      · have hge : t.links.length ≤ i := by simpa using h2
        have hlk : (t.links.take i).foldl lnB (swT t) = t.links.foldl lnB (swT t) := by rw [List.take_of_length_le hge]
        rw [hlk]
        conv => whnf
        repeat (refine And.intro (by first | exact rfl | decide | exact Nat.le_of_ble_eq_true rfl | exact ⟨_, rfl⟩ | exact ⟨_, _, rfl⟩ | exact Nat.le_refl _ | exact Int.le_refl _ | omega | (simp only [List.length_map]; omega)) ?_; conv => whnf)
        refine LoopP.inv (X := ax g) (fun i : Nat => { f := [(1, .ptr 1 0), (2, .str ⟨#[]⟩), (3, .ptr 3 0), (49, .d (.sl false 2 (t.hosts.map rowP))), (50, .i64 t.hosts.length), (51, .i64 i)], h := [(1, some (.dvar 3 (rowT t))), (3, some (bldO ((t.hosts.take i).foldl hoB (t.links.foldl lnB (swT t)))))] }) (fun i => i ≤ t.hosts.length) (fun i => t.hosts.length - i) 0 (Nat.zero_le _) ⟨⟨rfl, rfl, rfl, rfl, AV.int_eq (by simp [rowT, D.els]), rfl, trivial⟩, ⟨fun o h => h, fun o h => h, trivial⟩⟩ fun i hi => ?_
        conv => whnf
        refine ifB_intro (fun h3 => ?_) (fun h3 => ?_)
        · have hlt : i < t.hosts.length := by simpa using h3
          conv => whnf
          refine And.intro (by omega) ?_
          refine And.intro (by simpa using hlt) ?_
          conv => whnf
          rw [getD_map rowP t.hosts i [] hlt]
          have k1 := ht.hosts t.hosts[i] (List.getElem_mem hlt)
          have d1 := sayB_len k1
          conv => whnf
          repeat (refine And.intro (by first | exact rfl | decide | exact Nat.le_of_ble_eq_true rfl | exact ⟨_, rfl⟩ | exact ⟨_, _, rfl⟩ | exact Nat.le_refl _ | exact Int.le_refl _ | omega | (simp only [List.length_map]; omega)) ?_; conv => whnf)
          refine CallP.det (say_ctr g hg t.hosts[i] k1) ?_
          conv => whnf
          refine And.intro (by show 5 + (sayB t.hosts[i]).size ≤ _; omega) ?_
          conv => whnf
          refine And.intro (by show (hostB ++ sayB t.hosts[i]).size + 3 ≤ _; rw [ByteArray.size_append]; show 5 + _ + _ ≤ _; omega) ?_
          conv => whnf
          have hz := hz3 i
          have hq : ((hostB ++ sayB t.hosts[i]) ++ dotB).size ≤ 19 ∧ ((hostB ++ sayB t.hosts[i]) ++ dotB).size ≠ 0 := by
            rw [ByteArray.size_append, ByteArray.size_append]; show 5 + _ + 3 ≤ 19 ∧ 5 + _ + 3 ≠ 0; omega
          refine CallP.upd rfl (write3 g ((t.hosts.take i).foldl hoB (t.links.foldl lnB (swT t))) ((hostB ++ sayB t.hosts[i]) ++ dotB) (by omega) hq.2) ?_
          conv => whnf
          exact ⟨i + 1, by omega, by omega, ⟨⟨rfl, rfl, rfl, rfl, rfl, AV.int_eq (i64_succ (by omega)), trivial⟩, ⟨fun o h => h, fun o h => by rw [← h, foldl_next hoB (t.links.foldl lnB (swT t)) t.hosts i hlt]; rfl, trivial⟩⟩⟩
        · have hge : t.hosts.length ≤ i := by simpa using h3
          have hlk : (t.hosts.take i).foldl hoB (t.links.foldl lnB (swT t)) = textF t := by rw [List.take_of_length_le hge]; rfl
          rw [hlk]
          conv => whnf
          refine CallP.ends rfl (string3 g (textF t)) ?_
          conv => whnf
          refine ⟨⟨[], ?_⟩⟩
          conv => whnf
  · have hsw : (⟨#[]⟩ : ByteArray) = swT t := by
      have h : ¬ 0 < t.sw.length := by simpa [rowT, D.els] using h
      rw [swT, if_pos (by omega)]
    conv => whnf
    repeat (refine And.intro (by first | exact rfl | decide | exact Nat.le_of_ble_eq_true rfl | exact ⟨_, rfl⟩ | exact ⟨_, _, rfl⟩ | exact Nat.le_refl _ | exact Int.le_refl _ | omega | (simp only [List.length_map]; omega)) ?_; conv => whnf)
    refine LoopP.asBld 3 108 bldT108 rfl ?_
    conv => whnf
    refine LoopP.inv (X := ax g) (fun i : Nat => { f := [(1, .ptr 1 0), (2, .str ⟨#[]⟩), (3, .ptr 3 0), (30, .d (.sl false 4 (t.links.map rowL))), (31, .i64 t.links.length), (32, .i64 i)], h := [(1, some (.dvar 3 (rowT t))), (3, some (bldO ((t.links.take i).foldl lnB (swT t))))] }) (fun i => i ≤ t.links.length) (fun i => t.links.length - i) 0 (Nat.zero_le _) ⟨⟨rfl, rfl, rfl, rfl, AV.int_eq (by simp [rowT, D.els]), rfl, trivial⟩, ⟨fun o h => h, fun o h => by rw [← h, hsw]; rfl, trivial⟩⟩ fun i hi => ?_
    conv => whnf
    refine ifB_intro (fun h2 => ?_) (fun h2 => ?_)
    · have hlt : i < t.links.length := by simpa using h2
      conv => whnf
      refine And.intro (by omega) ?_
      refine And.intro (by simpa using hlt) ?_
      conv => whnf
      rw [getD_map rowL t.links i [] hlt]
      obtain ⟨k1, k2⟩ := ht.links t.links[i] (List.getElem_mem hlt)
      have d1 := sayB_len k1
      have d2 := sayB_len k2
      conv => whnf
      repeat (refine And.intro (by first | exact rfl | decide | exact Nat.le_of_ble_eq_true rfl | exact ⟨_, rfl⟩ | exact ⟨_, _, rfl⟩ | exact Nat.le_refl _ | exact Int.le_refl _ | omega | (simp only [List.length_map]; omega)) ?_; conv => whnf)
      refine DrawP.intro (X := ax g) (id := 13) B31_13 (by kernel_rfl) (by decide +kernel) ?_
      conv => whnf
      repeat (refine And.intro (by first | exact rfl | decide | exact Nat.le_of_ble_eq_true rfl | exact ⟨_, rfl⟩ | exact ⟨_, _, rfl⟩ | exact Nat.le_refl _ | exact Int.le_refl _ | omega | (simp only [List.length_map]; omega)) ?_; conv => whnf)
      refine CallD.det (say_ctr g hg t.links[i].1 k1) ?_
      conv => whnf
      refine And.intro (by show 5 + (sayB t.links[i].1).size ≤ _; omega) ?_
      conv => whnf
      refine And.intro (by show (linkB ++ sayB t.links[i].1).size + 3 ≤ _; rw [ByteArray.size_append]; show 5 + _ + _ ≤ _; omega) ?_
      conv => whnf
      repeat (refine And.intro (by first | exact rfl | decide | exact Nat.le_of_ble_eq_true rfl | exact ⟨_, rfl⟩ | exact ⟨_, _, rfl⟩ | exact Nat.le_refl _ | exact Int.le_refl _ | omega | (simp only [List.length_map]; omega)) ?_; conv => whnf)
      refine CallD.det (say_ctr g hg t.links[i].2 k2) ?_
      conv => whnf
      refine And.intro (by show ((linkB ++ sayB t.links[i].1) ++ dashB).size + (sayB t.links[i].2).size ≤ _; rw [ByteArray.size_append, ByteArray.size_append]; show 5 + _ + 3 + _ ≤ _; omega) ?_
      conv => whnf
      refine And.intro (by show (((linkB ++ sayB t.links[i].1) ++ dashB) ++ sayB t.links[i].2).size + 3 ≤ _; rw [ByteArray.size_append, ByteArray.size_append, ByteArray.size_append]; show 5 + _ + 3 + _ + _ ≤ _; omega) ?_
      conv => whnf
      have hz := hz2 i
      have hq : ((((linkB ++ sayB t.links[i].1) ++ dashB) ++ sayB t.links[i].2) ++ dotB).size ≤ 33 ∧ ((((linkB ++ sayB t.links[i].1) ++ dashB) ++ sayB t.links[i].2) ++ dotB).size ≠ 0 := by
        rw [ByteArray.size_append, ByteArray.size_append, ByteArray.size_append, ByteArray.size_append]; show 5 + _ + 3 + _ + 3 ≤ 33 ∧ 5 + _ + 3 + _ + 3 ≠ 0; omega
      refine CallD.upd rfl (write3 g ((t.links.take i).foldl lnB (swT t)) ((((linkB ++ sayB t.links[i].1) ++ dashB) ++ sayB t.links[i].2) ++ dotB) (by omega) hq.2) ?_
      conv => whnf
      repeat (refine And.intro (by first | exact rfl | decide | exact Nat.le_of_ble_eq_true rfl | exact ⟨_, rfl⟩ | exact ⟨_, _, rfl⟩ | exact Nat.le_refl _ | exact Int.le_refl _ | omega | (simp only [List.length_map]; omega)) ?_; conv => whnf)
      exact ⟨i + 1, by omega, by omega, ⟨⟨rfl, rfl, rfl, rfl, rfl, AV.int_eq (i64_succ (by omega)), trivial⟩, ⟨fun o h => h, fun o h => by rw [← h, foldl_next lnB (swT t) t.links i hlt]; rfl, trivial⟩⟩⟩
    · have hge : t.links.length ≤ i := by simpa using h2
      have hlk : (t.links.take i).foldl lnB (swT t) = t.links.foldl lnB (swT t) := by rw [List.take_of_length_le hge]
      rw [hlk]
      conv => whnf
      repeat (refine And.intro (by first | exact rfl | decide | exact Nat.le_of_ble_eq_true rfl | exact ⟨_, rfl⟩ | exact ⟨_, _, rfl⟩ | exact Nat.le_refl _ | exact Int.le_refl _ | omega | (simp only [List.length_map]; omega)) ?_; conv => whnf)
      refine LoopP.inv (X := ax g) (fun i : Nat => { f := [(1, .ptr 1 0), (2, .str ⟨#[]⟩), (3, .ptr 3 0), (49, .d (.sl false 2 (t.hosts.map rowP))), (50, .i64 t.hosts.length), (51, .i64 i)], h := [(1, some (.dvar 3 (rowT t))), (3, some (bldO ((t.hosts.take i).foldl hoB (t.links.foldl lnB (swT t)))))] }) (fun i => i ≤ t.hosts.length) (fun i => t.hosts.length - i) 0 (Nat.zero_le _) ⟨⟨rfl, rfl, rfl, rfl, AV.int_eq (by simp [rowT, D.els]), rfl, trivial⟩, ⟨fun o h => h, fun o h => h, trivial⟩⟩ fun i hi => ?_
      conv => whnf
      refine ifB_intro (fun h3 => ?_) (fun h3 => ?_)
      · have hlt : i < t.hosts.length := by simpa using h3
        conv => whnf
        refine And.intro (by omega) ?_
        refine And.intro (by simpa using hlt) ?_
        conv => whnf
        rw [getD_map rowP t.hosts i [] hlt]
        have k1 := ht.hosts t.hosts[i] (List.getElem_mem hlt)
        have d1 := sayB_len k1
        conv => whnf
        repeat (refine And.intro (by first | exact rfl | decide | exact Nat.le_of_ble_eq_true rfl | exact ⟨_, rfl⟩ | exact ⟨_, _, rfl⟩ | exact Nat.le_refl _ | exact Int.le_refl _ | omega | (simp only [List.length_map]; omega)) ?_; conv => whnf)
        refine CallP.det (say_ctr g hg t.hosts[i] k1) ?_
        conv => whnf
        refine And.intro (by show 5 + (sayB t.hosts[i]).size ≤ _; omega) ?_
        conv => whnf
        refine And.intro (by show (hostB ++ sayB t.hosts[i]).size + 3 ≤ _; rw [ByteArray.size_append]; show 5 + _ + _ ≤ _; omega) ?_
        conv => whnf
        have hz := hz3 i
        have hq : ((hostB ++ sayB t.hosts[i]) ++ dotB).size ≤ 19 ∧ ((hostB ++ sayB t.hosts[i]) ++ dotB).size ≠ 0 := by
          rw [ByteArray.size_append, ByteArray.size_append]; show 5 + _ + 3 ≤ 19 ∧ 5 + _ + 3 ≠ 0; omega
        refine CallP.upd rfl (write3 g ((t.hosts.take i).foldl hoB (t.links.foldl lnB (swT t))) ((hostB ++ sayB t.hosts[i]) ++ dotB) (by omega) hq.2) ?_
        conv => whnf
        exact ⟨i + 1, by omega, by omega, ⟨⟨rfl, rfl, rfl, rfl, rfl, AV.int_eq (i64_succ (by omega)), trivial⟩, ⟨fun o h => h, fun o h => by rw [← h, foldl_next hoB (t.links.foldl lnB (swT t)) t.hosts i hlt]; rfl, trivial⟩⟩⟩
      · have hge : t.hosts.length ≤ i := by simpa using h3
        have hlk : (t.hosts.take i).foldl hoB (t.links.foldl lnB (swT t)) = textF t := by rw [List.take_of_length_le hge]; rfl
        rw [hlk]
        conv => whnf
        refine CallP.ends rfl (string3 g (textF t)) ?_
        conv => whnf
        refine ⟨⟨[], ?_⟩⟩
        conv => whnf
end Go.Ax
