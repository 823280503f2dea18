import Derived.Test.YtjokajidcojlmaaDoorBAxTw
import Derived.Test.YtjokajidcojlmaaDoorBAxTy

/- TopoBack, walked: over what it needs of the plain law. -/
namespace Go.Ax
open Go.Proofs Go.Lib
set_option maxRecDepth 10000

theorem bne_S (n : Int) : (n != n) = false := by simp
def kL : List TK := [.int .u16, .int .u16, .int .u16, .int .u16]
theorem eqAll_L (l : PortT × PortT) : eqAll kL (rowL l) (rowL l) 0 = true := by
  show ((l.1.1 == l.1.1) && ((l.1.2 == l.1.2) && ((l.2.1 == l.2.1) && ((l.2.2 == l.2.2) && true)))) = true
  simp
theorem same13_ctr (g : GP) (t : TopoT) (h1 : t.sw.length < 2 ^ 40) (h2 : t.links.length < 2 ^ 40) (h3 : t.hosts.length < 2 ^ 40) : Ctr (ax g).E 33 [.dagg (rowT t), .dagg (rowT t)] [] (fun o => o = .ret (.bool true) []) := by
  refine Ctr.body (X := ax g) _ 87 [] [.tmp 4] Tryd.func33 rfl rfl rfl rfl (by decide +kernel) rfl rfl ?_
  conv => whnf
  repeat (refine And.intro (by first | exact rfl | decide | exact Nat.le_of_ble_eq_true rfl | exact ⟨_, rfl⟩ | exact ⟨_, _, rfl⟩ | exact Nat.le_refl _ | exact Int.le_refl _ | omega | (simp only [List.length_map]; omega)) ?_; conv => whnf)
  refine ifB_intro (fun hA => ?_) (fun hA => ?_)
  · exfalso
    have hA : ((((t.sw.map rowS).length : Int) != ((t.sw.map rowS).length : Int))) = true := hA
    simp at hA
  · rw [hA]
    conv => whnf
    repeat (refine And.intro (by first | exact rfl | decide | exact Nat.le_of_ble_eq_true rfl | exact ⟨_, rfl⟩ | exact ⟨_, _, rfl⟩ | exact Nat.le_refl _ | exact Int.le_refl _ | omega | (simp only [List.length_map]; omega)) ?_; conv => whnf)
    refine ifB_intro (fun hB => ?_) (fun hB => ?_)
    · exfalso
      have hB : ((((t.links.map rowL).length : Int) != ((t.links.map rowL).length : Int))) = true := hB
      simp at hB
    · rw [hB]
      conv => whnf
      repeat (refine And.intro (by first | exact rfl | decide | exact Nat.le_of_ble_eq_true rfl | exact ⟨_, rfl⟩ | exact ⟨_, _, rfl⟩ | exact Nat.le_refl _ | exact Int.le_refl _ | omega | (simp only [List.length_map]; omega)) ?_; conv => whnf)
      refine ifB_intro (fun hC => ?_) (fun hC => ?_)
      · exfalso
        have hC : ((((t.hosts.map rowP).length : Int) != ((t.hosts.map rowP).length : Int))) = true := hC
        simp at hC
      · conv => whnf
        repeat (refine And.intro (by first | exact rfl | decide | exact Nat.le_of_ble_eq_true rfl | exact ⟨_, rfl⟩ | exact ⟨_, _, rfl⟩ | exact Nat.le_refl _ | exact Int.le_refl _ | omega | (simp only [List.length_map]; omega)) ?_; conv => whnf)
        refine LoopP.inv (X := ax g) (fun i : Nat => { f := [(2, .ptr 2 0), (3, .ptr 3 0), (4, .bool false), (5, .i64 i)], h := [(2, some (.dvar 3 (rowT t))), (3, some (.dvar 3 (rowT t)))] }) (fun i => i ≤ t.sw.length) (fun i => t.sw.length - i) 0 (Nat.zero_le _) ⟨⟨rfl, rfl, rfl, rfl, trivial⟩, ⟨fun o h => h, fun o h => h, trivial⟩⟩ fun i hi => ?_
        conv => whnf
        repeat (refine And.intro (by first | exact rfl | decide | exact Nat.le_of_ble_eq_true rfl | exact ⟨_, rfl⟩ | exact ⟨_, _, rfl⟩ | exact Nat.le_refl _ | exact Int.le_refl _ | omega | (simp only [List.length_map]; omega)) ?_; conv => whnf)
        refine ifB_intro (fun hL => ?_) (fun hL => ?_)
        · have hL : decide ((i : Int) < ((t.sw.map rowS).length : Int)) = true := hL
          have hlt : i < t.sw.length := by simpa using hL
          have hel : ((rowT t).getD (0 + 0) (D.v undef)).els.getD (i : Int).toNat [] = rowS t.sw[i] := getD_map rowS t.sw i [] hlt
          have hle : (i : Int) < (((rowT t).getD (0 + 0) (D.v undef)).els.length : Int) := by show (i : Int) < ((t.sw.map rowS).length : Int); simpa using hlt
          conv => whnf
          refine DrawP.intro (X := ax g) B33_6 (by kernel_rfl) (by decide +kernel) ?_
          conv => whnf
          repeat (refine And.intro (by first | exact rfl | decide | exact Nat.le_of_ble_eq_true rfl | exact ⟨_, rfl⟩ | exact ⟨_, _, rfl⟩ | exact Nat.le_refl _ | exact Int.le_refl _ | omega | (simp only [List.length_map]; omega)) ?_; conv => whnf)
          rw [hel]
          repeat (refine And.intro (by first | exact rfl | decide | exact Nat.le_of_ble_eq_true rfl | exact ⟨_, rfl⟩ | exact ⟨_, _, rfl⟩ | exact Nat.le_refl _ | exact Int.le_refl _ | omega | (simp only [List.length_map]; omega)) ?_; conv => whnf)
          rw [hel]
          repeat (refine And.intro (by first | exact rfl | decide | exact Nat.le_of_ble_eq_true rfl | exact ⟨_, rfl⟩ | exact ⟨_, _, rfl⟩ | exact Nat.le_refl _ | exact Int.le_refl _ | omega | (simp only [List.length_map]; omega)) ?_; conv => whnf)
          refine ifB_intro (fun hN => ?_) (fun hN => ?_)
          · exfalso
            have hN : (t.sw[i] != t.sw[i]) = true := hN
            rw [bne_S] at hN; exact absurd hN (by simp)
          · conv => whnf
            repeat (refine And.intro (by first | exact rfl | decide | exact Nat.le_of_ble_eq_true rfl | exact ⟨_, rfl⟩ | exact ⟨_, _, rfl⟩ | exact Nat.le_refl _ | exact Int.le_refl _ | omega | (simp only [List.length_map]; omega)) ?_; conv => whnf)
            exact ⟨i + 1, by omega, by omega, ⟨⟨rfl, rfl, rfl, AV.int_eq (i64_succ (by omega)), trivial⟩, ⟨fun o h => h, fun o h => h, trivial⟩⟩⟩
        · conv => whnf
          repeat (refine And.intro (by first | exact rfl | decide | exact Nat.le_of_ble_eq_true rfl | exact ⟨_, rfl⟩ | exact ⟨_, _, rfl⟩ | exact Nat.le_refl _ | exact Int.le_refl _ | omega | (simp only [List.length_map]; omega)) ?_; conv => whnf)
          refine LoopP.inv (X := ax g) (fun i : Nat => { f := [(2, .ptr 2 0), (3, .ptr 3 0), (4, .bool false), (6, .i64 i)], h := [(2, some (.dvar 3 (rowT t))), (3, some (.dvar 3 (rowT t)))] }) (fun i => i ≤ t.links.length) (fun i => t.links.length - i) 0 (Nat.zero_le _) ⟨⟨rfl, rfl, rfl, rfl, trivial⟩, ⟨fun o h => h, fun o h => h, trivial⟩⟩ fun i hi => ?_
          conv => whnf
          repeat (refine And.intro (by first | exact rfl | decide | exact Nat.le_of_ble_eq_true rfl | exact ⟨_, rfl⟩ | exact ⟨_, _, rfl⟩ | exact Nat.le_refl _ | exact Int.le_refl _ | omega | (simp only [List.length_map]; omega)) ?_; conv => whnf)
          refine ifB_intro (fun hL => ?_) (fun hL => ?_)
          · have hL : decide ((i : Int) < ((t.links.map rowL).length : Int)) = true := hL
            have hlt : i < t.links.length := by simpa using hL
            have hel : ((rowT t).getD (0 + 1) (D.v undef)).els.getD (i : Int).toNat [] = rowL t.links[i] := getD_map rowL t.links i [] hlt
            have hle : (i : Int) < (((rowT t).getD (0 + 1) (D.v undef)).els.length : Int) := by show (i : Int) < ((t.links.map rowL).length : Int); simpa using hlt
            conv => whnf
            refine DrawP.intro (X := ax g) B33_11 (by kernel_rfl) (by decide +kernel) ?_
            conv => whnf
            repeat (refine And.intro (by first | exact rfl | decide | exact Nat.le_of_ble_eq_true rfl | exact ⟨_, rfl⟩ | exact ⟨_, _, rfl⟩ | exact Nat.le_refl _ | exact Int.le_refl _ | omega | (simp only [List.length_map]; omega)) ?_; conv => whnf)
            rw [hel]
            repeat (refine And.intro (by first | exact rfl | decide | exact Nat.le_of_ble_eq_true rfl | exact ⟨_, rfl⟩ | exact ⟨_, _, rfl⟩ | exact Nat.le_refl _ | exact Int.le_refl _ | omega | (simp only [List.length_map]; omega)) ?_; conv => whnf)
            rw [hel]
            repeat (refine And.intro (by first | exact rfl | decide | exact Nat.le_of_ble_eq_true rfl | exact ⟨_, rfl⟩ | exact ⟨_, _, rfl⟩ | exact Nat.le_refl _ | exact Int.le_refl _ | omega | (simp only [List.length_map]; omega)) ?_; conv => whnf)
            refine ifB_intro (fun hN => ?_) (fun hN => ?_)
            · exfalso
              have hN : (!(eqAll kL (rowL t.links[i]) (rowL t.links[i]) 0)) = true := hN
              rw [eqAll_L] at hN; exact absurd hN (by simp)
            · conv => whnf
              repeat (refine And.intro (by first | exact rfl | decide | exact Nat.le_of_ble_eq_true rfl | exact ⟨_, rfl⟩ | exact ⟨_, _, rfl⟩ | exact Nat.le_refl _ | exact Int.le_refl _ | omega | (simp only [List.length_map]; omega)) ?_; conv => whnf)
              exact ⟨i + 1, by omega, by omega, ⟨⟨rfl, rfl, rfl, AV.int_eq (i64_succ (by omega)), trivial⟩, ⟨fun o h => h, fun o h => h, trivial⟩⟩⟩
          · conv => whnf
            repeat (refine And.intro (by first | exact rfl | decide | exact Nat.le_of_ble_eq_true rfl | exact ⟨_, rfl⟩ | exact ⟨_, _, rfl⟩ | exact Nat.le_refl _ | exact Int.le_refl _ | omega | (simp only [List.length_map]; omega)) ?_; conv => whnf)
            refine LoopP.inv (X := ax g) (fun i : Nat => { f := [(2, .ptr 2 0), (3, .ptr 3 0), (4, .bool false), (7, .i64 i)], h := [(2, some (.dvar 3 (rowT t))), (3, some (.dvar 3 (rowT t)))] }) (fun i => i ≤ t.hosts.length) (fun i => t.hosts.length - i) 0 (Nat.zero_le _) ⟨⟨rfl, rfl, rfl, rfl, trivial⟩, ⟨fun o h => h, fun o h => h, trivial⟩⟩ fun i hi => ?_
            conv => whnf
            repeat (refine And.intro (by first | exact rfl | decide | exact Nat.le_of_ble_eq_true rfl | exact ⟨_, rfl⟩ | exact ⟨_, _, rfl⟩ | exact Nat.le_refl _ | exact Int.le_refl _ | omega | (simp only [List.length_map]; omega)) ?_; conv => whnf)
            refine ifB_intro (fun hL => ?_) (fun hL => ?_)
            · have hL : decide ((i : Int) < ((t.hosts.map rowP).length : Int)) = true := hL
              have hlt : i < t.hosts.length := by simpa using hL
              have hel : ((rowT t).getD (0 + 2) (D.v undef)).els.getD (i : Int).toNat [] = rowP t.hosts[i] := getD_map rowP t.hosts i [] hlt
              have hle : (i : Int) < (((rowT t).getD (0 + 2) (D.v undef)).els.length : Int) := by show (i : Int) < ((t.hosts.map rowP).length : Int); simpa using hlt
              conv => whnf
              refine DrawP.intro (X := ax g) B33_16 (by kernel_rfl) (by decide +kernel) ?_
              conv => whnf
              repeat (refine And.intro (by first | exact rfl | decide | exact Nat.le_of_ble_eq_true rfl | exact ⟨_, rfl⟩ | exact ⟨_, _, rfl⟩ | exact Nat.le_refl _ | exact Int.le_refl _ | omega | (simp only [List.length_map]; omega)) ?_; conv => whnf)
              rw [hel]
              repeat (refine And.intro (by first | exact rfl | decide | exact Nat.le_of_ble_eq_true rfl | exact ⟨_, rfl⟩ | exact ⟨_, _, rfl⟩ | exact Nat.le_refl _ | exact Int.le_refl _ | omega | (simp only [List.length_map]; omega)) ?_; conv => whnf)
              rw [hel]
              repeat (refine And.intro (by first | exact rfl | decide | exact Nat.le_of_ble_eq_true rfl | exact ⟨_, rfl⟩ | exact ⟨_, _, rfl⟩ | exact Nat.le_refl _ | exact Int.le_refl _ | omega | (simp only [List.length_map]; omega)) ?_; conv => whnf)
              refine ifB_intro (fun hN => ?_) (fun hN => ?_)
              · exfalso
                have hN : (!(eqAll kP (rowP t.hosts[i]) (rowP t.hosts[i]) 0)) = true := hN
                rw [eqAll_P] at hN; exact absurd hN (by simp)
              · conv => whnf
                repeat (refine And.intro (by first | exact rfl | decide | exact Nat.le_of_ble_eq_true rfl | exact ⟨_, rfl⟩ | exact ⟨_, _, rfl⟩ | exact Nat.le_refl _ | exact Int.le_refl _ | omega | (simp only [List.length_map]; omega)) ?_; conv => whnf)
                exact ⟨i + 1, by omega, by omega, ⟨⟨rfl, rfl, rfl, AV.int_eq (i64_succ (by omega)), trivial⟩, ⟨fun o h => h, fun o h => h, trivial⟩⟩⟩
            · conv => whnf
              refine ⟨⟨[], ?_⟩⟩
              conv => whnf

theorem backLaw13_ctr (g : GP) (hg : ∀ w, g.G w → LibG w) (hp : ∀ w, g.G w → PowG w) (t : TopoT) (ht : OkT t) (hb : checkF t = 0 → (textF t).size ≤ 4000 → parseF (textF t) = (some t, 0)) : Ctr (ax g).E 6 [.dagg (rowT t)] [] (fun o => o = .ret (.bool true) []) := by
  refine Ctr.body (X := ax g) _ 28 [] [.tmp 2] Tryd.func6 rfl rfl rfl rfl (by decide +kernel) rfl rfl ?_
  conv => whnf
  repeat (refine And.intro (by first | exact rfl | decide | exact Nat.le_of_ble_eq_true rfl | exact ⟨_, rfl⟩ | exact ⟨_, _, rfl⟩ | exact Nat.le_refl _ | exact Int.le_refl _ | omega | (simp only [List.length_map]; omega)) ?_; conv => whnf)
  refine CallP.det (awake13_ctr g hg hp) ?_
  conv => whnf
  repeat (refine And.intro (by first | exact rfl | decide | exact Nat.le_of_ble_eq_true rfl | exact ⟨_, rfl⟩ | exact ⟨_, _, rfl⟩ | exact Nat.le_refl _ | exact Int.le_refl _ | omega | (simp only [List.length_map]; omega)) ?_; conv => whnf)
  refine CallP.det (check_ctr g t) ?_
  conv => whnf
  refine ifB_intro (fun h => ?_) (fun h => ?_)
  · conv => whnf
    refine ⟨⟨[], ?_⟩⟩
    conv => whnf
  · have h : (checkF t != 0) = false := h
    have h : checkF t = 0 := by simpa [bne] using h
    obtain ⟨_, hs, hl, hh⟩ := check_nd h
    conv => whnf
    repeat (refine And.intro (by first | exact rfl | decide | exact Nat.le_of_ble_eq_true rfl | exact ⟨_, rfl⟩ | exact ⟨_, _, rfl⟩ | exact Nat.le_refl _ | exact Int.le_refl _ | omega | (simp only [List.length_map]; omega)) ?_; conv => whnf)
    refine CallP.det (text_ctr g hp t ht ⟨by omega, by omega, by omega⟩) ?_
    have hb := hb h
    generalize textF t = s at hb
    conv => whnf
    repeat (refine And.intro (by first | exact rfl | decide | exact Nat.le_of_ble_eq_true rfl | exact ⟨_, rfl⟩ | exact ⟨_, _, rfl⟩ | exact Nat.le_refl _ | exact Int.le_refl _ | omega | (simp only [List.length_map]; omega)) ?_; conv => whnf)
    refine ifB_intro (fun h2 => ?_) (fun h2 => ?_)
    · conv => whnf
      refine ⟨⟨[], ?_⟩⟩
      conv => whnf
    · have h2 : decide ((s.size : Int) > 4000) = false := h2
      have h2 : s.size ≤ 4000 := by simp at h2; omega
      conv => whnf
      repeat (refine And.intro (by first | exact rfl | decide | exact Nat.le_of_ble_eq_true rfl | exact ⟨_, rfl⟩ | exact ⟨_, _, rfl⟩ | exact Nat.le_refl _ | exact Int.le_refl _ | omega | (simp only [List.length_map]; omega)) ?_; conv => whnf)
      refine CallP.det (parse_ctr g hg s (by omega)) ?_
      rw [hb h2]
      conv => whnf
      repeat (refine And.intro (by first | exact rfl | decide | exact Nat.le_of_ble_eq_true rfl | exact ⟨_, rfl⟩ | exact ⟨_, _, rfl⟩ | exact Nat.le_refl _ | exact Int.le_refl _ | omega | (simp only [List.length_map]; omega)) ?_; conv => whnf)
      refine CallP.det (same13_ctr g t (by omega) (by omega) (by omega)) ?_
      conv => whnf
      refine ⟨⟨[], ?_⟩⟩
      conv => whnf
      rfl
end Go.Ax
