import Derived.Test.YtjokajidcojlmaaDoorBAxTw
import Derived.Test.YtjokajidcojlmaaDoorBAxTy

/- TopoEnds, walked. -/
namespace Go.Ax
open Go.Proofs Go.Lib
set_option maxRecDepth 10000

theorem endsLaw_ctr (g : GP) (hg : ∀ w, g.G w → LibG w) (hp : ∀ w, g.G w → PowG w) (t : TopoT) : Ctr (ax g).E 7 [.dagg (rowT t)] [] (fun o => o = .ret (.bool true) []) := by
  refine Ctr.body (X := ax g) _ 90 [] [.tmp 2] Tryd.func7 rfl rfl rfl rfl (by decide +kernel) rfl rfl ?_
  conv => whnf
  repeat (refine And.intro (by first | exact rfl | decide | exact Nat.le_of_ble_eq_true rfl | exact ⟨_, rfl⟩ | exact ⟨_, _, rfl⟩ | exact Nat.le_refl _ | exact Int.le_refl _ | omega | (simp only [List.length_map]; omega)) ?_; conv => whnf)
  refine CallP.det (awake13_ctr g hg hp) ?_
  conv => whnf
  repeat (refine And.intro (by first | exact rfl | decide | exact Nat.le_of_ble_eq_true rfl | exact ⟨_, rfl⟩ | exact ⟨_, _, rfl⟩ | exact Nat.le_refl _ | exact Int.le_refl _ | omega | (simp only [List.length_map]; omega)) ?_; conv => whnf)
  refine CallP.det (check_ctr g t) ?_
  conv => whnf
  refine ifB_intro (fun h => ?_) (fun h => ?_)
  · conv => whnf
    refine ⟨⟨[], ?_⟩⟩
    conv => whnf
  · have h : (checkF t != 0) = false := h
    have h : checkF t = 0 := by simpa [bne] using h
    obtain ⟨e1, e2⟩ := ends_law h
    obtain ⟨_, _, hl, hh⟩ := check_nd h
    conv => whnf
    repeat (refine And.intro (by first | exact rfl | decide | exact Nat.le_of_ble_eq_true rfl | exact ⟨_, rfl⟩ | exact ⟨_, _, rfl⟩ | exact Nat.le_refl _ | exact Int.le_refl _ | omega | (simp only [List.length_map]; omega)) ?_; conv => whnf)
    refine LoopP.inv (X := ax g) (fun i : Nat => { f := [(1, .ptr 1 0), (2, .bool false), (19, .d (.sl false 4 (t.links.map rowL))), (20, .i64 t.links.length), (21, .i64 i)], h := [(1, some (.dvar 3 (rowT t)))] }) (fun i => i ≤ t.links.length) (fun i => t.links.length - i) 0 (Nat.zero_le _) ⟨⟨rfl, rfl, rfl, AV.int_eq (by simp [rowT, D.els]), rfl, trivial⟩, ⟨fun o h => h, trivial⟩⟩ fun i hi => ?_
    conv => whnf
    refine ifB_intro (fun h2 => ?_) (fun h2 => ?_)
    · have hlt : i < t.links.length := by simpa using h2
      obtain ⟨o1, o2, o3, o4⟩ := e1 t.links[i] (List.getElem_mem hlt)
      conv => whnf
      refine And.intro (by omega) ?_
      refine And.intro (by simpa using hlt) ?_
      conv => whnf
      rw [getD_map rowL t.links i [] hlt]
      generalize t.links[i] = x at o1 o2 o3 o4
      conv => whnf
      repeat (refine And.intro (by first | exact rfl | decide | exact Nat.le_of_ble_eq_true rfl | exact ⟨_, rfl⟩ | exact ⟨_, _, rfl⟩ | exact Nat.le_refl _ | exact Int.le_refl _ | omega | (simp only [List.length_map]; omega)) ?_; conv => whnf)
      refine CallP.det (other_ctr g t x.1 (by omega)) ?_
      rw [o1]
      conv => whnf
      repeat (refine And.intro (by first | exact rfl | decide | exact Nat.le_of_ble_eq_true rfl | exact ⟨_, rfl⟩ | exact ⟨_, _, rfl⟩ | exact Nat.le_refl _ | exact Int.le_refl _ | omega | (simp only [List.length_map]; omega)) ?_; conv => whnf)
      refine CallP.det (other_ctr g t x.2 (by omega)) ?_
      rw [o2]
      conv => whnf
      repeat (refine And.intro (by first | exact rfl | decide | exact Nat.le_of_ble_eq_true rfl | exact ⟨_, rfl⟩ | exact ⟨_, _, rfl⟩ | exact Nat.le_refl _ | exact Int.le_refl _ | omega | (simp only [List.length_map]; omega)) ?_; conv => whnf)
      refine ifB_intro (fun hX => ?_) (fun hX => ?_)
      · exfalso
        have hX : (!(eqAll kP (rowP x.2) (rowP x.2) 0)) = true := hX
        rw [eqAll_P] at hX; exact absurd hX (by simp)
      · rw [hX]
        conv => whnf
        repeat (refine And.intro (by first | exact rfl | decide | exact Nat.le_of_ble_eq_true rfl | exact ⟨_, rfl⟩ | exact ⟨_, _, rfl⟩ | exact Nat.le_refl _ | exact Int.le_refl _ | omega | (simp only [List.length_map]; omega)) ?_; conv => whnf)
        refine ifB_intro (fun hY => ?_) (fun hY => ?_)
        · exfalso
          have hY : (!(eqAll kP (rowP x.1) (rowP x.1) 0)) = true := hY
          rw [eqAll_P] at hY; exact absurd hY (by simp)
        · rw [hY]
          conv => whnf
          repeat (refine And.intro (by first | exact rfl | decide | exact Nat.le_of_ble_eq_true rfl | exact ⟨_, rfl⟩ | exact ⟨_, _, rfl⟩ | exact Nat.le_refl _ | exact Int.le_refl _ | omega | (simp only [List.length_map]; omega)) ?_; conv => whnf)
          refine CallP.det (host_ctr g t x.1 (by omega)) ?_
          rw [o3]
          conv => whnf
          repeat (refine And.intro (by first | exact rfl | decide | exact Nat.le_of_ble_eq_true rfl | exact ⟨_, rfl⟩ | exact ⟨_, _, rfl⟩ | exact Nat.le_refl _ | exact Int.le_refl _ | omega | (simp only [List.length_map]; omega)) ?_; conv => whnf)
          refine CallP.det (host_ctr g t x.2 (by omega)) ?_
          rw [o4]
          conv => whnf
          exact ⟨i + 1, by omega, by omega, ⟨⟨rfl, rfl, rfl, rfl, AV.int_eq (i64_succ (by omega)), trivial⟩, ⟨fun o h => h, trivial⟩⟩⟩
    · have hge : t.links.length ≤ i := by simpa using h2
      conv => whnf
      repeat (refine And.intro (by first | exact rfl | decide | exact Nat.le_of_ble_eq_true rfl | exact ⟨_, rfl⟩ | exact ⟨_, _, rfl⟩ | exact Nat.le_refl _ | exact Int.le_refl _ | omega | (simp only [List.length_map]; omega)) ?_; conv => whnf)
      refine LoopP.inv (X := ax g) (fun i : Nat => { f := [(1, .ptr 1 0), (2, .bool false), (70, .d (.sl false 2 (t.hosts.map rowP))), (71, .i64 t.hosts.length), (72, .i64 i)], h := [(1, some (.dvar 3 (rowT t)))] }) (fun i => i ≤ t.hosts.length) (fun i => t.hosts.length - i) 0 (Nat.zero_le _) ⟨⟨rfl, rfl, rfl, AV.int_eq (by simp [rowT, D.els]), rfl, trivial⟩, ⟨fun o h => h, trivial⟩⟩ fun i hi => ?_
      conv => whnf
      refine ifB_intro (fun h3 => ?_) (fun h3 => ?_)
      · have hlt : i < t.hosts.length := by simpa using h3
        obtain ⟨o1, o2⟩ := e2 t.hosts[i] (List.getElem_mem hlt)
        conv => whnf
        refine And.intro (by omega) ?_
        refine And.intro (by simpa using hlt) ?_
        conv => whnf
        rw [getD_map rowP t.hosts i [] hlt]
        generalize t.hosts[i] = x at o1 o2
        conv => whnf
        repeat (refine And.intro (by first | exact rfl | decide | exact Nat.le_of_ble_eq_true rfl | exact ⟨_, rfl⟩ | exact ⟨_, _, rfl⟩ | exact Nat.le_refl _ | exact Int.le_refl _ | omega | (simp only [List.length_map]; omega)) ?_; conv => whnf)
        refine CallP.det (other_ctr g t x (by omega)) ?_
        rw [o1]
        conv => whnf
        repeat (refine And.intro (by first | exact rfl | decide | exact Nat.le_of_ble_eq_true rfl | exact ⟨_, rfl⟩ | exact ⟨_, _, rfl⟩ | exact Nat.le_refl _ | exact Int.le_refl _ | omega | (simp only [List.length_map]; omega)) ?_; conv => whnf)
        refine CallP.det (host_ctr g t x (by omega)) ?_
        rw [o2]
        conv => whnf
        exact ⟨i + 1, by omega, by omega, ⟨⟨rfl, rfl, rfl, rfl, AV.int_eq (i64_succ (by omega)), trivial⟩, ⟨fun o h => h, trivial⟩⟩⟩
      · conv => whnf
        refine ⟨⟨[], ?_⟩⟩
        conv => whnf
end Go.Ax
