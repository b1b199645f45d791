/- PRINTED by a program of the claim's own: the types of the seat, and Go's functions as Lean functions, each with the proof that a call of it comes to that. -/
import Derived.Test.YtdiclbejalelfaaT1
set_option linter.unusedVariables false
set_option linter.unusedSimpArgs false
set_option maxRecDepth 100000
namespace Go.Proofs.Ytdiclbejalelfaa
open Go.RowKit
open Rep (R)
theorem tree_Best_enters : Enters Try.prog 7 := ⟨_, Try.func7, rfl, rfl⟩
set_option maxHeartbeats 4000000 in
theorem tree_Best_ok {k : Nat} {p0 : Lan} {p1 : Int} {r : (Int × Int × Int)} (H : tree_Best k p0 p1 = some r) {G : Ghost} {w : World} (hG : Holds G w) {v0 : Value} (h0 : R G p0 v0) : Ret Try.prog 7 [v0, .int .i64 p1] w G (fun G v => R3 G r v) := by
  obtain ⟨v7, v8, rfl, h3, h6⟩ := h0
  obtain ⟨A1, c2, rfl, h3⟩ := Sl.open h3
  obtain ⟨A4, c5, rfl, h6⟩ := Sl.open h6
  unfold tree_Best at H
  refine start Try.func7 rfl Try.ntmps7 rfl hG (E.seq (E.region (EL.run tabOk 4 rfl (EL.nil (EX.seq (E.seq (E.block (E.seq (E.region (EL.run tabOk 1 rfl ?_))))))))))
  obtain ⟨x9, hx10, H⟩ := bind_some H
  refine EL.call rfl rfl rfl rfl lan_Right_enters (fun w hw => lan_Right_ok hx10 hw ⟨_, _, rfl, h3, h6⟩) (fun v13 G12 hle11 hv14 => ?_)
  have h3 := Rep.mono hle11 h3; have h6 := Rep.mono hle11 h6
  obtain rfl : _ = _ := hv14
  refine EL.run tabOk 2 rfl (EL.nil (EX.seq (E.cond rfl H (fun hb H => ?_) (fun hb H => ?_))))
  · skip
    exact E.seq (E.region (EL.run tabOk 3 rfl (EL.nil (EX.seq (E.ret (EX.retB (EX.retT (EX.retE H tabOk rfl ⟨_, _, _, rfl, rfl, rfl, rfl⟩))))))))
  · skip
    refine E.seq (E.join (fun env L Γ => ∃ (b15 : Bool), env = [(1, some (.v (.int .i64 p1))), (2, some (.p 0 0)), (12, some (.v (.bool b15)))] ∧ L = [.box 25 [.v (.int .i64 p0.Segs), .v (.slice A1 p0.Plans.length c2), .v (.slice A4 p0.Hosts.length c5)]] ∧ GLe G12 Γ ∧ tree_Best_j1 k p0 p1 b15 = some r) ?_ (fun hj16 => ?_))
    · skip
      rintro _ _ G18 ⟨b15, rfl, rfl, hle17, H⟩
      unfold tree_Best_j1 at H
      have h3 := Rep.mono hle17 h3; have h6 := Rep.mono hle17 h6
      refine EX.seq (E.cond rfl H (fun hb H => ?_) (fun hb H => ?_))
      · skip
        exact E.seq (E.region (EL.run tabOk 3 rfl (EL.nil (EX.seq (E.ret (EX.retB (EX.retT (EX.retE H tabOk rfl ⟨_, _, _, rfl, rfl, rfl, rfl⟩))))))))
      · skip
        refine E.skip (EX.block (EX.seq (E.seq (E.region (EL.run tabOk 1 rfl ?_)))))
        obtain ⟨x19, hx20, H⟩ := bind_some H
        refine EL.call rfl rfl rfl rfl tree_bests_enters (fun w hw => tree_bests_ok hx20 hw ⟨_, _, rfl, h3, h6⟩) (fun v23 G22 hle21 hv24 => ?_)
        have h3 := Rep.mono hle21 h3; have h6 := Rep.mono hle21 h6
        obtain ⟨A25, c26, rfl, h27⟩ := Sl.open hv24
        refine EL.run tabOk 1 rfl ?_
        obtain ⟨y28, hy29, H⟩ := bind_some H
        refine EL.index hy29 h27 tabOk rfl rfl rfl rfl rfl rfl rfl rfl (fun b30 o31 u32 hu33 hc34 => ?_)
        obtain rfl : _ = _ := hu33
        refine EL.load hc34 tabOk rfl rfl rfl rfl rfl rfl (EL.run tabOk 2 rfl (EL.nil (EX.seq (E.seq (E.fewer (env' := [(7, some (.p 1 0))]) (L' := [.box 25 [.v (.int .i64 p0.Segs), .v (.slice A1 p0.Plans.length c2), .v (.slice A4 p0.Hosts.length c5)], .box 61 [.v (.int .i64 y28.x0), .v (.int .i64 y28.x1)]]) (E.sub' ((E.draw mixed (fun (bs : List Bool) (env : Env) (L : List Ent) (Γ : Ghost) => match bs with | [b0', b1', b2', b3', b4', b5', b6'] =>  env = [(27, bif b0' then some (.p 1 0) else none), (28, bif b1' then some (.v (.int .i64 y28.x0)) else none), (29, bif b2' then some (.p 1 1) else none), (30, bif b3' then some (.v (.int .i64 y28.x1)) else none), (4, bif b4' then some (.v (.int .i64 y28.x0)) else none), (5, bif b5' then some (.v (.int .i64 y28.x1)) else none), (6, bif b6' then some (.v (.int .i64 0)) else none), (7, some (.p 1 0))] ∧ L = [.box 25 [.v (.int .i64 p0.Segs), .v (.slice A1 p0.Plans.length c2), .v (.slice A4 p0.Hosts.length c5)], .box 61 [.v (.int .i64 y28.x0), .v (.int .i64 y28.x1)]] ∧ GLe G22 Γ | _ => False) ⟨rfl, rfl, GLe.refl _⟩ rfl ?_ ?_)) ⟨rfl, rfl, rfl, rfl, rfl, rfl, rfl, rfl, trivial⟩) ⟨⟨_, rfl, rfl⟩, trivial⟩ ⟨.inr rfl, .inr rfl, trivial⟩ rfl rfl)))))
        · refine ⟨?_, ?_, ?_, ?_, ?_, ?_, ?_, trivial⟩
          · intro b0' b1' b2' b3' b4' b5' b6'
            rintro ⟨⟩ ⟨⟩ ⟨⟩ ⟨⟩ ⟨⟩
            rintro _ _ G36 ⟨rfl, rfl, hle35⟩ K hK
            exact EL.step tabOk rfl (EL.nil (EX.sub' (hK _ _ _ ⟨rfl, rfl, hle35⟩) ⟨rfl, rfl, rfl, rfl, rfl, rfl, rfl, rfl, trivial⟩))
          · intro b0' b1' b2' b3' b4' b5' b6'
            rintro ⟨⟩ ⟨⟩ ⟨⟩ ⟨⟩ ⟨⟩
            rintro _ _ G38 ⟨rfl, rfl, hle37⟩ K hK
            exact EL.step tabOk rfl (EL.nil (EX.sub' (hK _ _ _ ⟨rfl, rfl, hle37⟩) ⟨rfl, rfl, rfl, rfl, rfl, rfl, rfl, rfl, trivial⟩))
          · intro b0' b1' b2' b3' b4' b5' b6'
            rintro ⟨⟩ ⟨⟩ ⟨⟩ ⟨⟩
            rintro _ _ G40 ⟨rfl, rfl, hle39⟩ K hK
            exact EL.step tabOk rfl (EL.nil (EX.sub' (hK _ _ _ ⟨rfl, rfl, hle39⟩) ⟨rfl, rfl, rfl, rfl, rfl, rfl, rfl, rfl, trivial⟩))
          · intro b0' b1' b2' b3' b4' b5' b6'
            rintro ⟨⟩ ⟨⟩ ⟨⟩ ⟨⟩
            rintro _ _ G42 ⟨rfl, rfl, hle41⟩ K hK
            exact EL.step tabOk rfl (EL.nil (EX.sub' (hK _ _ _ ⟨rfl, rfl, hle41⟩) ⟨rfl, rfl, rfl, rfl, rfl, rfl, rfl, rfl, trivial⟩))
          · intro b0' b1' b2' b3' b4' b5' b6'
            rintro ⟨⟩ ⟨⟩ ⟨⟩ ⟨⟩ ⟨⟩ ⟨⟩
            rintro _ _ G44 ⟨rfl, rfl, hle43⟩ K hK
            exact EL.step tabOk rfl (EL.nil (EX.sub' (hK _ _ _ ⟨rfl, rfl, hle43⟩) ⟨rfl, rfl, rfl, rfl, rfl, rfl, rfl, rfl, trivial⟩))
          · intro b0' b1' b2' b3' b4' b5' b6'
            rintro ⟨⟩ ⟨⟩ ⟨⟩ ⟨⟩ ⟨⟩ ⟨⟩ ⟨⟩ ⟨⟩ ⟨⟩
            rintro _ _ G46 ⟨rfl, rfl, hle45⟩ K hK
            exact EL.step tabOk rfl (EL.nil (EX.sub' (hK _ _ _ ⟨rfl, rfl, hle45⟩) ⟨rfl, rfl, rfl, rfl, rfl, rfl, rfl, rfl, trivial⟩))
          · intro b0' b1' b2' b3' b4' b5' b6'
            rintro ⟨⟩ ⟨⟩ ⟨⟩ ⟨⟩ ⟨⟩ ⟨⟩ ⟨⟩ ⟨⟩
            rintro _ _ G48 ⟨rfl, rfl, hle47⟩ K hK
            exact EL.step tabOk rfl (EL.nil (EX.sub' (hK _ _ _ ⟨rfl, rfl, hle47⟩) ⟨rfl, rfl, rfl, rfl, rfl, rfl, rfl, rfl, trivial⟩))
        rintro _ _ G50 ⟨rfl, rfl, hle49⟩
        have h3 := Rep.mono hle49 h3
        have h6 := Rep.mono hle49 h6
        exact EX.seq (E.ret (EX.retE H tabOk rfl ⟨_, _, _, rfl, rfl, rfl, rfl⟩))
    · skip
      refine E.region (EL.run tabOk 3 rfl (EL.split (s := 15) rfl H (fun hb H => ?_) (fun hb H => ?_)))
      · skip
        exact EL.run tabOk 7 rfl (EL.nil (EX.fewer (hj16 _ _ _ ⟨true, rfl, rfl, (GLe.refl _), H⟩) ⟨⟨_, rfl, rfl⟩, ⟨_, rfl, rfl⟩, ⟨_, rfl, rfl⟩, trivial⟩ ⟨.inr rfl, trivial⟩ rfl rfl))
      · skip
        exact EL.run tabOk 7 rfl (EL.nil (EX.fewer (hj16 _ _ _ ⟨decide (p1 ≥ (p0.Plans.length : Int)), rfl, rfl, (GLe.refl _), H⟩) ⟨⟨_, rfl, rfl⟩, ⟨_, rfl, rfl⟩, ⟨_, rfl, rfl⟩, trivial⟩ ⟨.inr rfl, trivial⟩ rfl rfl))
theorem vec_in_enters : Enters Try.prog 56 := ⟨_, Try.func56, rfl, rfl⟩
set_option maxHeartbeats 4000000 in
theorem vec_in_ok {k : Nat} {p0 : Int} {p1 : Int} {r : Bool} (H : vec_in k p0 p1 = some r) {G : Ghost} {w : World} (hG : Holds G w)  : Ret Try.prog 56 [.int .i64 p0, .int .i64 p1] w G (fun G v => R G r v) := by
  unfold vec_in at H
  exact start Try.func56 rfl Try.ntmps56 rfl hG (E.seq (E.region (EL.run tabOk 1 rfl (EL.nil (EX.seq (E.seq (E.region (EL.run tabOk 8 rfl (EL.nil (EX.seq (E.ret (EX.retE H tabOk rfl rfl))))))))))))
theorem vec_Right_enters : Enters Try.prog 55 := ⟨_, Try.func55, rfl, rfl⟩
set_option maxHeartbeats 4000000 in
theorem vec_Right_ok {k : Nat} {p0 : Vec} {r : Bool} (H : vec_Right k p0 = some r) {G : Ghost} {w : World} (hG : Holds G w)  : Ret Try.prog 55 [.agg #[.int .i64 p0.Root, .int .i64 p0.Cost, .int .i64 p0.Bridge, .int .i64 p0.Port]] w G (fun G v => R G r v) := by
  unfold vec_Right at H
  refine start Try.func55 rfl Try.ntmps55 rfl hG (E.seq (E.region (EL.run tabOk 2 rfl (EL.nil (EX.seq (E.seq (E.join (fun env L Γ => ∃ (b1 : Bool), env = [(2, some (.v (.bool b1)))] ∧ L = [.box 94 [.v (.int .i64 p0.Root), .v (.int .i64 p0.Cost), .v (.int .i64 p0.Bridge), .v (.int .i64 p0.Port)]] ∧ GLe G Γ ∧ vec_Right_j1 k b1 = some r) ?_ (fun hj2 => ?_))))))))
  · skip
    rintro _ _ G4 ⟨b1, rfl, rfl, hle3, H⟩
    unfold vec_Right_j1 at H
    exact EX.seq (E.ret (EX.retE H tabOk rfl rfl))
  · skip
    refine E.region (EL.run tabOk 2 rfl ?_)
    obtain ⟨x5, hx6, H⟩ := bind_some H
    refine EL.call rfl rfl rfl rfl vec_in_enters (fun w hw => vec_in_ok hx6 hw ) (fun v9 G8 hle7 hv10 => ?_)
    obtain rfl : _ = _ := hv10
    refine EL.run tabOk 1 rfl (EL.split (s := 6) rfl H (fun hb H => ?_) (fun hb H => ?_))
    · skip
      refine EL.run tabOk 2 rfl ?_
      obtain ⟨x11, hx12, H⟩ := bind_some H
      refine EL.call rfl rfl rfl rfl vec_in_enters (fun w hw => vec_in_ok hx12 hw ) (fun v15 G14 hle13 hv16 => ?_)
      obtain rfl : _ = _ := hv16
      refine EL.run tabOk 2 rfl (EL.split (s := 11) rfl H (fun hb H => ?_) (fun hb H => ?_))
      · skip
        refine EL.run tabOk 2 rfl ?_
        obtain ⟨x17, hx18, H⟩ := bind_some H
        refine EL.call rfl rfl rfl rfl vec_in_enters (fun w hw => vec_in_ok hx18 hw ) (fun v21 G20 hle19 hv22 => ?_)
        obtain rfl : _ = _ := hv22
        refine EL.run tabOk 2 rfl (EL.split (s := 16) rfl H (fun hb H => ?_) (fun hb H => ?_))
        · skip
          refine EL.run tabOk 2 rfl ?_
          obtain ⟨x23, hx24, H⟩ := bind_some H
          refine EL.call rfl rfl rfl rfl vec_in_enters (fun w hw => vec_in_ok hx24 hw ) (fun v27 G26 hle25 hv28 => ?_)
          obtain rfl : _ = _ := hv28
          exact EL.run tabOk 2 rfl (EL.nil (EX.fewer (hj2 _ _ _ ⟨x23, rfl, rfl, (GLe.trans (GLe.trans (GLe.trans hle7 hle13) hle19) hle25), H⟩) ⟨⟨_, rfl, rfl⟩, trivial⟩ ⟨.inr rfl, trivial⟩ rfl rfl))
        · skip
          exact EL.run tabOk 5 rfl (EL.nil (EX.fewer (hj2 _ _ _ ⟨false, rfl, rfl, (GLe.trans (GLe.trans hle7 hle13) hle19), H⟩) ⟨⟨_, rfl, rfl⟩, trivial⟩ ⟨.inr rfl, trivial⟩ rfl rfl))
      · skip
        exact EL.run tabOk 10 rfl (EL.nil (EX.fewer (hj2 _ _ _ ⟨false, rfl, rfl, (GLe.trans hle7 hle13), H⟩) ⟨⟨_, rfl, rfl⟩, trivial⟩ ⟨.inr rfl, trivial⟩ rfl rfl))
    · skip
      exact EL.run tabOk 15 rfl (EL.nil (EX.fewer (hj2 _ _ _ ⟨false, rfl, rfl, hle7, H⟩) ⟨⟨_, rfl, rfl⟩, trivial⟩ ⟨.inr rfl, trivial⟩ rfl rfl))
theorem vec_allRight_1_enters : Enters Try.prog 62 := ⟨_, Try.func62, rfl, rfl⟩
set_option maxHeartbeats 4000000 in
theorem vec_allRight_1_ok {k : Nat} {p0 : Vec} {r : Bool} (H : vec_allRight_1 k p0 = some r) {G : Ghost} {w : World} (hG : Holds G w)  : Ret Try.prog 62 [.agg #[.int .i64 p0.Root, .int .i64 p0.Cost, .int .i64 p0.Bridge, .int .i64 p0.Port]] w G (fun G v => R G r v) := by
  unfold vec_allRight_1 at H
  refine start Try.func62 rfl Try.ntmps62 rfl hG (E.seq (E.region (EL.run tabOk 2 rfl (EL.nil (EX.seq (E.seq (E.region (EL.run tabOk 1 rfl ?_))))))))
  obtain ⟨x1, hx2, H⟩ := bind_some H
  refine EL.call rfl rfl rfl rfl vec_Right_enters (fun w hw => vec_Right_ok hx2 hw ) (fun v5 G4 hle3 hv6 => ?_)
  obtain rfl : _ = _ := hv6
  exact EL.run tabOk 2 rfl (EL.nil (EX.seq (E.ret (EX.retE H tabOk rfl rfl))))
theorem slices_IndexFunc_63_enters : Enters Try.prog 63 := ⟨_, Try.func63, rfl, rfl⟩
set_option maxHeartbeats 4000000 in
theorem slices_IndexFunc_63_ok {k : Nat} {p0 : (List Vec)} {p1 : (Vec → Option Bool)} {r : Int} (H : slices_IndexFunc_63 k p0 p1 = some r) {G : Ghost} {w : World} (hG : Holds G w) {v0 : Value} (h0 : R G p0 v0) {v1 : Value} (h1 : FnR Try.prog G p1 v1) : Ret Try.prog 63 [v0, v1] w G (fun G v => R G r v) := by
  obtain ⟨A5, c6, rfl, h7⟩ := Sl.open h0
  obtain ⟨g1, cp2, rfl, hen3, hsp4⟩ := h1
  unfold slices_IndexFunc_63 at H
  refine start Try.func63 rfl Try.ntmps63 rfl hG (E.seq (E.region (EL.run tabOk 1 rfl (EL.nil (EX.seq (E.seq (E.seq (E.region (EL.run tabOk 3 rfl (EL.nil (EX.seq (E.join (fun env L Γ =>  env = [] ∧ L = [] ∧ GLe G Γ ∧ slices_IndexFunc_63_j1 k = some r) ?_ (fun hj8 => ?_)))))))))))))
  · skip
    rintro _ _ G10 ⟨rfl, rfl, hle9, H⟩
    unfold slices_IndexFunc_63_j1 at H
    exact EX.seq (E.seq (E.region (EL.run tabOk 1 rfl (EL.nil (EX.seq (E.ret (EX.retE H tabOk rfl rfl)))))))
  · skip
    refine E.block (E.fewer (E.loop (fun n env L Γ => ∃ (i11 : Int), env = [(0, some (.v (.slice A5 p0.length c6))), (1, some (.v (.func (.func g1) #[] cp2))), (7, some (.v (.int .i64 (p0.length : Int)))), (8, some (.v (.int .i64 i11)))] ∧ L = [] ∧ GLe G Γ ∧ loopN (fun _ => none) (slices_IndexFunc_63_s2 k p0 p1) n i11 = some r) k ⟨0, rfl, rfl, GLe.refl _, H⟩ ?_) ⟨⟨_, rfl, rfl⟩, ⟨_, rfl, rfl⟩, ⟨_, rfl, rfl⟩, ⟨_, rfl, rfl⟩, trivial⟩ trivial rfl rfl)
    rintro n16 _ _ G14 ⟨i11, rfl, rfl, hle12, H⟩ K hK15
    obtain _ | n16 := n16
    · exact none_ne H
    rw [loopN] at H; unfold slices_IndexFunc_63_s2 at H
    have h7 := Rep.mono hle12 h7
    refine E.seq (E.region (EL.run tabOk 1 rfl (EL.nil (EX.seq (E.seq (E.cond rfl H (fun hb H => ?_) (fun hb H => ?_)))))))
    · skip
      refine E.skip (EX.seq (E.seq (E.block (E.seq (E.region (EL.run tabOk 2 rfl (EL.nil (EX.seq (E.seq (E.region (EL.run tabOk 3 rfl ?_)))))))))))
      obtain ⟨y17, hy18, H⟩ := bind_some H
      refine EL.index hy18 h7 tabOk rfl rfl rfl rfl rfl rfl rfl rfl (fun b19 o20 u21 hu22 hc23 => ?_)
      obtain rfl : _ = _ := hu22
      refine EL.load hc23 tabOk rfl rfl rfl rfl rfl rfl ?_
      obtain ⟨x24, hx25, H⟩ := bind_some H
      refine EL.callV rfl rfl rfl rfl rfl hen3 (fun w hw => hsp4 _ _ hx25 _ hle12 _ rfl w hw) (fun v27 G29 hle26 hv28 => ?_)
      have h7 := Rep.mono hle26 h7
      obtain rfl : _ = _ := hv28
      refine EL.nil (EX.seq (E.cond rfl H (fun hb H => ?_) (fun hb H => ?_)))
      · skip
        exact E.seq (E.region (EL.run tabOk 2 rfl (EL.nil (EX.seq (E.ret (EX.retB (EX.retT (EX.retT (EX.retB (EX.retT (EX.retE H tabOk rfl rfl)))))))))))
      · skip
        exact E.skip (EX.block (EX.seq (E.region (EL.run tabOk 2 rfl (EL.nil (EX.fewer (hK15 n16 _ _ _ (Nat.lt_succ_self _) ⟨wr (i11 + 1), rfl, rfl, (GLe.trans hle12 hle26), H⟩) ⟨⟨_, rfl, rfl⟩, ⟨_, rfl, rfl⟩, ⟨_, rfl, rfl⟩, ⟨_, rfl, rfl⟩, trivial⟩ trivial rfl rfl))))))
    · skip
      exact E.exit (EX.out (EX.out (EX.hit (EX.fewer (hj8 _ _ _ ⟨rfl, rfl, hle12, H⟩) trivial trivial rfl rfl))))
theorem slices_ContainsFunc_61_enters : Enters Try.prog 61 := ⟨_, Try.func61, rfl, rfl⟩
set_option maxHeartbeats 4000000 in
theorem slices_ContainsFunc_61_ok {k : Nat} {p0 : (List Vec)} {p1 : (Vec → Option Bool)} {r : Bool} (H : slices_ContainsFunc_61 k p0 p1 = some r) {G : Ghost} {w : World} (hG : Holds G w) {v0 : Value} (h0 : R G p0 v0) {v1 : Value} (h1 : FnR Try.prog G p1 v1) : Ret Try.prog 61 [v0, v1] w G (fun G v => R G r v) := by
  obtain ⟨A5, c6, rfl, h7⟩ := Sl.open h0
  obtain ⟨g1, cp2, rfl, hen3, hsp4⟩ := h1
  unfold slices_ContainsFunc_61 at H
  refine start Try.func61 rfl Try.ntmps61 rfl hG (E.seq (E.region (EL.run tabOk 1 rfl (EL.nil (EX.seq (E.seq (E.region (EL.run tabOk 2 rfl ?_))))))))
  obtain ⟨x8, hx9, H⟩ := bind_some H
  refine EL.call rfl rfl rfl rfl slices_IndexFunc_63_enters (fun w hw => slices_IndexFunc_63_ok hx9 hw h7 (FnR.mono (GLe.refl _) ⟨_, _, rfl, hen3, hsp4⟩)) (fun v12 G11 hle10 hv13 => ?_)
  obtain rfl : _ = _ := hv13
  exact EL.run tabOk 2 rfl (EL.nil (EX.seq (E.ret (EX.retE H tabOk rfl rfl))))
theorem vec_allRight_enters : Enters Try.prog 57 := ⟨_, Try.func57, rfl, rfl⟩
set_option maxHeartbeats 4000000 in
theorem vec_allRight_ok {k : Nat} {p0 : (List Vec)} {r : Bool} (H : vec_allRight k p0 = some r) {G : Ghost} {w : World} (hG : Holds G w) {v0 : Value} (h0 : R G p0 v0) : Ret Try.prog 57 [v0] w G (fun G v => R G r v) := by
  obtain ⟨A1, c2, rfl, h3⟩ := Sl.open h0
  unfold vec_allRight at H
  refine start Try.func57 rfl Try.ntmps57 rfl hG (E.seq (E.region (EL.run tabOk 1 rfl (EL.nil (EX.seq (E.seq (E.region (EL.run tabOk 1 rfl ?_))))))))
  have hf5 : FnR Try.prog G (fun (x4 : Vec) => vec_allRight_1 k x4) (.func (.func 62) #[] #[]) := ⟨62, _, rfl, vec_allRight_1_enters, fun x0' y hf G' hle' u0 hu0 w hw => by obtain rfl : _ = _ := hu0; exact vec_allRight_1_ok hf hw ⟩
  obtain ⟨x6, hx7, H⟩ := bind_some H
  refine EL.call rfl rfl rfl rfl slices_ContainsFunc_61_enters (fun w hw => slices_ContainsFunc_61_ok hx7 hw h3 hf5) (fun v10 G9 hle8 hv11 => ?_)
  obtain rfl : _ = _ := hv11
  exact EL.run tabOk 2 rfl (EL.nil (EX.seq (E.ret (EX.retE H tabOk rfl rfl))))
theorem cmp_Or_enters : Enters Try.prog 87 := ⟨_, Try.func87, rfl, rfl⟩
set_option maxHeartbeats 4000000 in
theorem cmp_Or_ok {k : Nat} {p0 : (List Int)} {r : Int} (H : cmp_Or k p0 = some r) {G : Ghost} {w : World} (hG : Holds G w) {v0 : Value} (h0 : R G p0 v0) : Ret Try.prog 87 [v0] w G (fun G v => R G r v) := by
  obtain ⟨A1, c2, rfl, h3⟩ := Sl.open h0
  unfold cmp_Or at H
  refine start Try.func87 rfl Try.ntmps87 rfl hG (E.seq (E.region (EL.run tabOk 1 rfl (EL.nil (EX.seq (E.seq (E.region (EL.run tabOk 1 rfl (EL.nil (EX.seq (E.seq (E.seq (E.region (EL.run tabOk 3 rfl (EL.nil (EX.seq (E.join (fun env L Γ =>  env = [(3, some (.v (.int .i64 0)))] ∧ L = [] ∧ GLe G Γ ∧ cmp_Or_j1 k = some r) ?_ (fun hj4 => ?_))))))))))))))))))
  · skip
    rintro _ _ G6 ⟨rfl, rfl, hle5, H⟩
    unfold cmp_Or_j1 at H
    exact EX.seq (E.seq (E.region (EL.run tabOk 2 rfl (EL.nil (EX.seq (E.ret (EX.retE H tabOk rfl rfl)))))))
  · skip
    refine E.block (E.fewer (E.loop (fun n env L Γ => ∃ (i7 : Int), env = [(3, some (.v (.int .i64 0))), (6, some (.v (.slice A1 p0.length c2))), (7, some (.v (.int .i64 (p0.length : Int)))), (8, some (.v (.int .i64 i7)))] ∧ L = [] ∧ GLe G Γ ∧ loopN (fun _ => none) (cmp_Or_s2 k p0) n i7 = some r) k ⟨0, rfl, rfl, GLe.refl _, H⟩ ?_) ⟨⟨_, rfl, rfl⟩, ⟨_, rfl, rfl⟩, ⟨_, rfl, rfl⟩, ⟨_, rfl, rfl⟩, trivial⟩ trivial rfl rfl)
    rintro n12 _ _ G10 ⟨i7, rfl, rfl, hle8, H⟩ K hK11
    obtain _ | n12 := n12
    · exact none_ne H
    rw [loopN] at H; unfold cmp_Or_s2 at H
    have h3 := Rep.mono hle8 h3
    refine E.seq (E.region (EL.run tabOk 1 rfl (EL.nil (EX.seq (E.seq (E.cond rfl H (fun hb H => ?_) (fun hb H => ?_)))))))
    · skip
      refine E.skip (EX.seq (E.seq (E.block (E.seq (E.region ?_)))))
      obtain ⟨y13, hy14, H⟩ := bind_some H
      refine EL.index hy14 h3 tabOk rfl rfl rfl rfl rfl rfl rfl rfl (fun b15 o16 u17 hu18 hc19 => ?_)
      obtain rfl : _ = _ := hu18
      refine EL.load hc19 tabOk rfl rfl rfl rfl rfl rfl (EL.run tabOk 1 rfl (EL.nil (EX.seq (E.seq (E.region (EL.run tabOk 3 rfl (EL.nil (EX.seq (E.cond rfl H (fun hb H => ?_) (fun hb H => ?_))))))))))
      · skip
        exact E.seq (E.region (EL.run tabOk 2 rfl (EL.nil (EX.seq (E.ret (EX.retB (EX.retT (EX.retT (EX.retB (EX.retT (EX.retE H tabOk rfl rfl)))))))))))
      · skip
        exact E.skip (EX.block (EX.seq (E.region (EL.run tabOk 2 rfl (EL.nil (EX.fewer (hK11 n12 _ _ _ (Nat.lt_succ_self _) ⟨wr (i7 + 1), rfl, rfl, hle8, H⟩) ⟨⟨_, rfl, rfl⟩, ⟨_, rfl, rfl⟩, ⟨_, rfl, rfl⟩, ⟨_, rfl, rfl⟩, trivial⟩ trivial rfl rfl))))))
    · skip
      exact E.exit (EX.out (EX.out (EX.hit (EX.fewer (hj4 _ _ _ ⟨rfl, rfl, hle8, H⟩) ⟨⟨_, rfl, rfl⟩, trivial⟩ trivial rfl rfl))))
theorem vec_one_rank_enters : Enters Try.prog 86 := ⟨_, Try.func86, rfl, rfl⟩
set_option maxHeartbeats 4000000 in
theorem vec_one_rank_ok {k : Nat} {p0 : vec_one} {p1 : vec_one} {r : Int} (H : vec_one_rank k p0 p1 = some r) {G : Ghost} {w : World} (hG : Holds G w)  : Ret Try.prog 86 [.agg #[.int .i64 p0.Vec.Root, .int .i64 p0.Vec.Cost, .int .i64 p0.Vec.Bridge, .int .i64 p0.Vec.Port], .agg #[.int .i64 p1.Vec.Root, .int .i64 p1.Vec.Cost, .int .i64 p1.Vec.Bridge, .int .i64 p1.Vec.Port]] w G (fun G v => R G r v) := by
  unfold vec_one_rank at H
  refine start Try.func86 rfl Try.ntmps86 rfl hG (E.seq (E.region (EL.run tabOk 3 rfl (EL.nil (EX.seq (E.seq (E.seq (E.region (EL.run tabOk 2 rfl (EL.eqS (ts := sts) tabOk stsOk gt119 rfl rfl rfl rfl rfl rfl rfl rfl false rfl (EL.nil (EX.seq (E.cond rfl H (fun hb H => ?_) (fun hb H => ?_))))))))))))))
  · skip
    exact E.seq (E.region (EL.run tabOk 1 rfl (EL.nil (EX.seq (E.ret (EX.retT (EX.retE H tabOk rfl rfl)))))))
  · skip
    refine E.skip (EX.seq (E.seq (E.region (EL.run tabOk 29 rfl ?_))))
    obtain ⟨x1, hx2, H⟩ := bind_some H
    refine EL.callS (r := 2) (e := 3) (sz := 1) (n := 4) (xs := ([wr (p0.Vec.Root - p1.Vec.Root), wr (p0.Vec.Cost - p1.Vec.Cost), wr (p0.Vec.Bridge - p1.Vec.Bridge), wr (p0.Vec.Port - p1.Vec.Port)] : List Int)) (va := fun A c => [.slice A ([wr (p0.Vec.Root - p1.Vec.Root), wr (p0.Vec.Cost - p1.Vec.Cost), wr (p0.Vec.Bridge - p1.Vec.Bridge), wr (p0.Vec.Port - p1.Vec.Port)] : List Int).length c]) (u := .int .i64 x1) (show Els G ([wr (p0.Vec.Root - p1.Vec.Root), wr (p0.Vec.Cost - p1.Vec.Cost), wr (p0.Vec.Bridge - p1.Vec.Bridge), wr (p0.Vec.Port - p1.Vec.Port)] : List Int) [(.int .i64 (wr (p0.Vec.Root - p1.Vec.Root))), (.int .i64 (wr (p0.Vec.Cost - p1.Vec.Cost))), (.int .i64 (wr (p0.Vec.Bridge - p1.Vec.Bridge))), (.int .i64 (wr (p0.Vec.Port - p1.Vec.Port)))] from (.cons rfl (.cons rfl (.cons rfl (.cons rfl All2.nil))))) rfl rfl rfl rfl rfl (fun _ _ => rfl) rfl cmp_Or_enters (fun w A c G1 hle' h1' hw => cmp_Or_ok hx2 hw h1') (fun _ _ h => h) (EL.run tabOk 1 rfl ?_)
    exact EL.nil (EX.seq (E.ret (EX.retE H tabOk rfl rfl)))
theorem vec_ahead_enters : Enters Try.prog 58 := ⟨_, Try.func58, rfl, rfl⟩
set_option maxHeartbeats 4000000 in
theorem vec_ahead_ok {k : Nat} {p0 : If124} {p1 : vec_one} {r : Bool} (H : vec_ahead k p0 p1 = some r) {G : Ghost} {w : World} (hG : Holds G w)  : Ret Try.prog 58 [.iface 119 (.agg #[.int .i64 p0.v.Vec.Root, .int .i64 p0.v.Vec.Cost, .int .i64 p0.v.Vec.Bridge, .int .i64 p0.v.Vec.Port]), .agg #[.int .i64 p1.Vec.Root, .int .i64 p1.Vec.Cost, .int .i64 p1.Vec.Bridge, .int .i64 p1.Vec.Port]] w G (fun G v => R G r v) := by
  unfold vec_ahead at H
  refine start Try.func58 rfl Try.ntmps58 rfl hG (E.seq (E.region (EL.run tabOk 2 rfl (EL.nil (EX.seq (E.seq (E.region (EL.run tabOk 2 rfl ?_))))))))
  obtain ⟨x1, hx2, H⟩ := bind_some H
  refine EL.callI rfl rfl rfl rfl (fun w => vmth_119_rank w _) rfl vec_one_rank_enters (fun w hw => vec_one_rank_ok hx2 hw ) (fun v5 G4 hle3 hv6 => ?_)
  obtain rfl : _ = _ := hv6
  exact EL.run tabOk 2 rfl (EL.nil (EX.seq (E.ret (EX.retE H tabOk rfl rfl))))
theorem vec_Best_enters : Enters Try.prog 40 := ⟨_, Try.func40, rfl, rfl⟩
set_option maxHeartbeats 4000000 in
theorem vec_Best_ok {k : Nat} {p0 : (List Vec)} {r : (Int × Int)} (H : vec_Best k p0 = some r) {G : Ghost} {w : World} (hG : Holds G w) {v0 : Value} (h0 : R G p0 v0) : Ret Try.prog 40 [v0] w G (fun G v => R2 G r v) := by
  obtain ⟨A1, c2, rfl, h3⟩ := Sl.open h0
  unfold vec_Best at H
  refine start Try.func40 rfl Try.ntmps40 rfl hG (E.seq (E.region (EL.run tabOk 2 rfl (EL.nil (EX.seq (E.seq (E.block (E.seq (E.region (EL.run tabOk 1 rfl ?_))))))))))
  obtain ⟨x4, hx5, H⟩ := bind_some H
  refine EL.call rfl rfl rfl rfl vec_allRight_enters (fun w hw => vec_allRight_ok hx5 hw h3) (fun v8 G7 hle6 hv9 => ?_)
  have h3 := Rep.mono hle6 h3
  obtain rfl : _ = _ := hv9
  refine EL.run tabOk 2 rfl (EL.nil (EX.seq (E.cond rfl H (fun hb H => ?_) (fun hb H => ?_))))
  · skip
    exact E.seq (E.region (EL.run tabOk 2 rfl (EL.nil (EX.seq (E.ret (EX.retB (EX.retT (EX.retE H tabOk rfl ⟨_, _, rfl, rfl, rfl⟩))))))))
  · skip
    refine E.seq (E.region (EL.run tabOk 4 rfl (EL.nil (EX.seq (E.cond rfl H (fun hb H => ?_) (fun hb H => ?_))))))
    · skip
      exact E.seq (E.region (EL.run tabOk 2 rfl (EL.nil (EX.seq (E.ret (EX.retB (EX.retT (EX.retE H tabOk rfl ⟨_, _, rfl, rfl, rfl⟩))))))))
    · skip
      refine E.skip (EX.block (EX.seq (E.seq (E.region (EL.run tabOk 1 rfl (EL.nil (EX.seq (E.seq (E.seq (E.region (EL.run tabOk 3 rfl (EL.nil (EX.seq (E.join (fun env L Γ => ∃ (i10 : Int), env = [(4, some (.v (.int .i64 i10)))] ∧ L = [] ∧ GLe G7 Γ ∧ vec_Best_j1 k i10 = some r) ?_ (fun hj11 => ?_)))))))))))))))
      · skip
        rintro _ _ G13 ⟨i10, rfl, rfl, hle12, H⟩
        unfold vec_Best_j1 at H
        exact EX.seq (E.seq (E.region (EL.run tabOk 3 rfl (EL.nil (EX.seq (E.ret (EX.retE H tabOk rfl ⟨_, _, rfl, rfl, rfl⟩)))))))
      · skip
        refine E.block (E.fewer (E.loop (fun n env L Γ => ∃ (i14 : Int) (i15 : Int), env = [(0, some (.v (.slice A1 p0.length c2))), (4, some (.v (.int .i64 i14))), (15, some (.v (.slice A1 p0.length c2))), (16, some (.v (.int .i64 (p0.length : Int)))), (17, some (.v (.int .i64 i15)))] ∧ L = [] ∧ GLe G7 Γ ∧ loopN (fun _ _ => none) (vec_Best_s3 k p0) n i14 i15 = some r) k ⟨0, 0, rfl, rfl, GLe.refl _, H⟩ ?_) ⟨⟨_, rfl, rfl⟩, ⟨_, rfl, rfl⟩, ⟨_, rfl, rfl⟩, ⟨_, rfl, rfl⟩, ⟨_, rfl, rfl⟩, trivial⟩ trivial rfl rfl)
        rintro n20 _ _ G18 ⟨i14, i15, rfl, rfl, hle16, H⟩ K hK19
        obtain _ | n20 := n20
        · exact none_ne H
        rw [loopN] at H; unfold vec_Best_s3 at H
        have h3 := Rep.mono hle16 h3
        refine E.seq (E.region (EL.run tabOk 1 rfl (EL.nil (EX.seq (E.seq (E.cond rfl H (fun hb H => ?_) (fun hb H => ?_)))))))
        · skip
          refine E.skip (EX.seq (E.seq (E.block (E.seq (E.region (EL.run tabOk 1 rfl ?_))))))
          obtain ⟨y21, hy22, H⟩ := bind_some H
          refine EL.index hy22 h3 tabOk rfl rfl rfl rfl rfl rfl rfl rfl (fun b23 o24 u25 hu26 hc27 => ?_)
          obtain rfl : _ = _ := hu26
          refine EL.load hc27 tabOk rfl rfl rfl rfl rfl rfl (EL.run tabOk 3 rfl (EL.nil (EX.seq (E.seq ?_))))
          obtain ⟨y28, hy29, H⟩ := bind_some H; obtain ⟨g37, g38, g39, g40⟩ := idx_some hy29; obtain ⟨b30, o31, u32, hA33, hn36, hu34, hc35⟩ := idx_at hy29 h3
          obtain rfl : _ = _ := hu34
          obtain ⟨x41, hx42, H⟩ := bind_some H
          refine E.fewer (env' := [(0, some (.v (.slice A1 p0.length c2))), (4, some (.v (.int .i64 i14))), (5, some (.v (.int .i64 i15))), (6, some (.p 0 0)), (15, some (.v (.slice A1 p0.length c2))), (16, some (.v (.int .i64 (p0.length : Int)))), (17, some (.v (.int .i64 i15)))]) (L' := [.box 94 [.v (.int .i64 y21.Root), .v (.int .i64 y21.Cost), .v (.int .i64 y21.Bridge), .v (.int .i64 y21.Port)]]) (E.sub' ((E.draw mixed (fun (bs : List Bool) (env : Env) (L : List Ent) (Γ : Ghost) => match bs with | [b0', b1', b2', b3', b4', b5', b6', b7', b8'] =>  env = [(22, bif b0' then some (.v (.agg #[.int .i64 y21.Root, .int .i64 y21.Cost, .int .i64 y21.Bridge, .int .i64 y21.Port])) else none), (23, bif b1' then some (.v (.agg #[.int .i64 y21.Root, .int .i64 y21.Cost, .int .i64 y21.Bridge, .int .i64 y21.Port])) else none), (24, bif b2' then some (.v (.iface 119 (.agg #[.int .i64 y21.Root, .int .i64 y21.Cost, .int .i64 y21.Bridge, .int .i64 y21.Port]))) else none), (25, bif b3' then some (.v (.slice A1 p0.length c2)) else none), (26, bif b4' then some (.v (.int .i64 i14)) else none), (27, bif b5' then some (.v (.pointer (some ⟨b30, o31 + (i14 : Int).toNat * 4, none⟩))) else none), (28, bif b6' then some (.v (.agg #[.int .i64 y28.Root, .int .i64 y28.Cost, .int .i64 y28.Bridge, .int .i64 y28.Port])) else none), (29, bif b7' then some (.v (.agg #[.int .i64 y28.Root, .int .i64 y28.Cost, .int .i64 y28.Bridge, .int .i64 y28.Port])) else none), (30, bif b8' then some (.v (.bool x41)) else none), (0, some (.v (.slice A1 p0.length c2))), (4, some (.v (.int .i64 i14))), (5, some (.v (.int .i64 i15))), (6, some (.p 0 0)), (15, some (.v (.slice A1 p0.length c2))), (16, some (.v (.int .i64 (p0.length : Int)))), (17, some (.v (.int .i64 i15)))] ∧ L = [.box 94 [.v (.int .i64 y21.Root), .v (.int .i64 y21.Cost), .v (.int .i64 y21.Bridge), .v (.int .i64 y21.Port)]] ∧ GLe G18 Γ | _ => False) ⟨rfl, rfl, GLe.refl _⟩ rfl ?_ ?_)) ⟨rfl, rfl, rfl, rfl, rfl, rfl, rfl, rfl, rfl, rfl, rfl, rfl, rfl, rfl, rfl, rfl, trivial⟩) ⟨⟨_, rfl, rfl⟩, ⟨_, rfl, rfl⟩, ⟨_, rfl, rfl⟩, ⟨_, rfl, rfl⟩, ⟨_, rfl, rfl⟩, ⟨_, rfl, rfl⟩, ⟨_, rfl, rfl⟩, trivial⟩ ⟨.inr rfl, trivial⟩ rfl rfl
          · refine ⟨?_, ?_, ?_, ?_, ?_, ?_, ?_, ?_, ?_, trivial⟩
            · intro b0' b1' b2' b3' b4' b5' b6' b7' b8'
              rintro ⟨⟩ ⟨⟩
              rintro _ _ G44 ⟨rfl, rfl, hle43⟩ K hK
              exact EL.step tabOk rfl (EL.nil (EX.sub' (hK _ _ _ ⟨rfl, rfl, hle43⟩) ⟨rfl, rfl, rfl, rfl, rfl, rfl, rfl, rfl, rfl, rfl, rfl, rfl, rfl, rfl, rfl, rfl, trivial⟩))
            · intro b0' b1' b2' b3' b4' b5' b6' b7' b8'
              rintro ⟨⟩ ⟨⟩ ⟨⟩
              rintro _ _ G46 ⟨rfl, rfl, hle45⟩ K hK
              exact EL.step tabOk rfl (EL.nil (EX.sub' (hK _ _ _ ⟨rfl, rfl, hle45⟩) ⟨rfl, rfl, rfl, rfl, rfl, rfl, rfl, rfl, rfl, rfl, rfl, rfl, rfl, rfl, rfl, rfl, trivial⟩))
            · intro b0' b1' b2' b3' b4' b5' b6' b7' b8'
              rintro ⟨⟩ ⟨⟩ ⟨⟩
              rintro _ _ G48 ⟨rfl, rfl, hle47⟩ K hK
              exact EL.step tabOk rfl (EL.nil (EX.sub' (hK _ _ _ ⟨rfl, rfl, hle47⟩) ⟨rfl, rfl, rfl, rfl, rfl, rfl, rfl, rfl, rfl, rfl, rfl, rfl, rfl, rfl, rfl, rfl, trivial⟩))
            · intro b0' b1' b2' b3' b4' b5' b6' b7' b8'
              rintro ⟨⟩ ⟨⟩
              rintro _ _ G50 ⟨rfl, rfl, hle49⟩ K hK
              have h3 := Rep.mono hle49 h3
              exact EL.step tabOk rfl (EL.nil (EX.sub' (hK _ _ _ ⟨rfl, rfl, hle49⟩) ⟨rfl, rfl, rfl, rfl, rfl, rfl, rfl, rfl, rfl, rfl, rfl, rfl, rfl, rfl, rfl, rfl, trivial⟩))
            · intro b0' b1' b2' b3' b4' b5' b6' b7' b8'
              rintro ⟨⟩ ⟨⟩
              rintro _ _ G52 ⟨rfl, rfl, hle51⟩ K hK
              exact EL.step tabOk rfl (EL.nil (EX.sub' (hK _ _ _ ⟨rfl, rfl, hle51⟩) ⟨rfl, rfl, rfl, rfl, rfl, rfl, rfl, rfl, rfl, rfl, rfl, rfl, rfl, rfl, rfl, rfl, trivial⟩))
            · intro b0' b1' b2' b3' b4' b5' b6' b7' b8'
              rintro ⟨⟩ ⟨⟩ ⟨⟩ ⟨⟩
              rintro _ _ G54 ⟨rfl, rfl, hle53⟩ K hK
              have h3 := Rep.mono hle53 h3
              exact EL.indexAt (b := b30) (o' := o31) (n := p0.length) (c := c2) g37 g39 tabOk rfl rfl rfl (by rw [← hA33]; rfl) rfl rfl rfl (EL.nil (EX.sub' (hK _ _ _ ⟨rfl, rfl, hle53⟩) ⟨rfl, rfl, rfl, rfl, rfl, rfl, rfl, rfl, rfl, rfl, rfl, rfl, rfl, rfl, rfl, rfl, trivial⟩))
            · intro b0' b1' b2' b3' b4' b5' b6' b7' b8'
              rintro ⟨⟩ ⟨⟩ ⟨⟩
              rintro _ _ G56 ⟨rfl, rfl, hle55⟩ K hK
              have hc35 := CellsAt.mono hle55 hc35
              exact EL.load hc35 tabOk rfl rfl rfl rfl rfl rfl (EL.nil (EX.sub' (hK _ _ _ ⟨rfl, rfl, hle55⟩) ⟨rfl, rfl, rfl, rfl, rfl, rfl, rfl, rfl, rfl, rfl, rfl, rfl, rfl, rfl, rfl, rfl, trivial⟩))
            · intro b0' b1' b2' b3' b4' b5' b6' b7' b8'
              rintro ⟨⟩ ⟨⟩ ⟨⟩
              rintro _ _ G58 ⟨rfl, rfl, hle57⟩ K hK
              exact EL.step tabOk rfl (EL.nil (EX.sub' (hK _ _ _ ⟨rfl, rfl, hle57⟩) ⟨rfl, rfl, rfl, rfl, rfl, rfl, rfl, rfl, rfl, rfl, rfl, rfl, rfl, rfl, rfl, rfl, trivial⟩))
            · intro b0' b1' b2' b3' b4' b5' b6' b7' b8'
              rintro ⟨⟩ ⟨⟩ ⟨⟩
              rintro _ _ G60 ⟨rfl, rfl, hle59⟩ K hK
              refine EL.call rfl rfl rfl rfl vec_ahead_enters (fun w hw => vec_ahead_ok hx42 hw ) (fun v61 G64 hle63 hv62 => ?_)
              obtain rfl : _ = _ := hv62
              exact EL.nil (EX.sub' (hK _ _ _ ⟨rfl, rfl, (GLe.trans hle59 hle63)⟩) ⟨rfl, rfl, rfl, rfl, rfl, rfl, rfl, rfl, rfl, rfl, rfl, rfl, rfl, rfl, rfl, rfl, trivial⟩)
          rintro _ _ G66 ⟨rfl, rfl, hle65⟩
          have h3 := Rep.mono hle65 h3
          refine EX.seq (E.join (fun env L Γ => ∃ (i67 : Int), env = [(0, some (.v (.slice A1 p0.length c2))), (4, some (.v (.int .i64 i67))), (15, some (.v (.slice A1 p0.length c2))), (16, some (.v (.int .i64 (p0.length : Int)))), (17, some (.v (.int .i64 i15)))] ∧ L = [.box 94 [.v (.int .i64 y21.Root), .v (.int .i64 y21.Cost), .v (.int .i64 y21.Bridge), .v (.int .i64 y21.Port)]] ∧ GLe G66 Γ ∧ vec_Best_j2 k i15 (loopN (fun _ _ => none) (vec_Best_s3 k p0) n20) i67 = some r) ?_ (fun hj68 => ?_))
          · skip
            rintro _ _ G70 ⟨i67, rfl, rfl, hle69, H⟩
            unfold vec_Best_j2 at H
            have h3 := Rep.mono hle69 h3
            exact EX.block (EX.seq (E.region (EL.run tabOk 2 rfl (EL.nil (EX.fewer (hK19 n20 _ _ _ (Nat.lt_succ_self _) ⟨i67, wr (i15 + 1), rfl, rfl, (GLe.trans (GLe.trans hle16 hle65) hle69), H⟩) ⟨⟨_, rfl, rfl⟩, ⟨_, rfl, rfl⟩, ⟨_, rfl, rfl⟩, ⟨_, rfl, rfl⟩, ⟨_, rfl, rfl⟩, trivial⟩ trivial rfl rfl)))))
          · skip
            refine E.cond rfl H (fun hb H => ?_) (fun hb H => ?_)
            · skip
              exact E.region (EL.run tabOk 2 rfl (EL.nil (EX.fewer (hj68 _ _ _ ⟨i15, rfl, rfl, (GLe.refl _), H⟩) ⟨⟨_, rfl, rfl⟩, ⟨_, rfl, rfl⟩, ⟨_, rfl, rfl⟩, ⟨_, rfl, rfl⟩, ⟨_, rfl, rfl⟩, trivial⟩ ⟨.inr rfl, trivial⟩ rfl rfl)))
            · skip
              exact E.skip (EX.fewer (hj68 _ _ _ ⟨i14, rfl, rfl, (GLe.refl _), H⟩) ⟨⟨_, rfl, rfl⟩, ⟨_, rfl, rfl⟩, ⟨_, rfl, rfl⟩, ⟨_, rfl, rfl⟩, ⟨_, rfl, rfl⟩, trivial⟩ ⟨.inr rfl, trivial⟩ rfl rfl)
        · skip
          exact E.exit (EX.out (EX.out (EX.hit (EX.fewer (hj11 _ _ _ ⟨i14, rfl, rfl, hle16, H⟩) ⟨⟨_, rfl, rfl⟩, trivial⟩ trivial rfl rfl))))
theorem tree_told_enters : Enters Try.prog 39 := ⟨_, Try.func39, rfl, rfl⟩
set_option maxHeartbeats 4000000 in
theorem tree_told_ok {k : Nat} {p0 : Lan} {p1 : (List arr2_i64)} {p2 : arr2_i64} {r : Vec} (H : tree_told k p0 p1 p2 = some r) {G : Ghost} {w : World} (hG : Holds G w) {v0 : Value} (h0 : R G p0 v0) {v1 : Value} (h1 : R G p1 v1) : Ret Try.prog 39 [v0, v1, .agg #[.int .i64 p2.x0, .int .i64 p2.x1]] w G (fun G v => R G r v) := by
  obtain ⟨v7, v8, rfl, h3, h6⟩ := h0
  obtain ⟨A1, c2, rfl, h3⟩ := Sl.open h3
  obtain ⟨A4, c5, rfl, h6⟩ := Sl.open h6
  obtain ⟨A9, c10, rfl, h11⟩ := Sl.open h1
  unfold tree_told at H
  refine start Try.func39 rfl Try.ntmps39 rfl hG (E.seq (E.region (EL.run tabOk 3 rfl (EL.nil (EX.seq (E.seq ?_))))))
  obtain ⟨y12, hy13, H⟩ := bind_some H; obtain ⟨g21, g22, g23, g24⟩ := idx_some hy13; obtain ⟨b14, o15, u16, hA17, hn20, hu18, hc19⟩ := idx_at hy13 h11
  obtain rfl : _ = _ := hu18
  obtain ⟨y25, hy26, H⟩ := bind_some H; obtain ⟨g34, g35, g36, g37⟩ := idx_some hy26; obtain ⟨b27, o28, u29, hA30, hn33, hu31, hc32⟩ := idx_at hy26 h11
  obtain rfl : _ = _ := hu31
  obtain ⟨y38, hy39, H⟩ := bind_some H; obtain ⟨g47, g48, g49, g50⟩ := idx_some hy39; obtain ⟨b40, o41, u42, hA43, hn46, hu44, hc45⟩ := idx_at hy39 h3
  obtain ⟨v54, rfl, h53⟩ := hu44
  obtain ⟨A51, c52, rfl, h53⟩ := Sl.open h53
  refine E.fewer (env' := [(1, some (.v (.slice A9 p1.length c10))), (3, some (.p 0 0)), (5, some (.p 1 0)), (6, some (.p 2 0))]) (L' := [.box 25 [.v (.int .i64 p0.Segs), .v (.slice A1 p0.Plans.length c2), .v (.slice A4 p0.Hosts.length c5)], .box 41 [.v (.int .i64 p2.x0), .v (.int .i64 p2.x1)], .box 94 [.v (.int .i64 0), .v (.int .i64 0), .v (.int .i64 0), .v (.int .i64 0)]]) (E.sub' ((E.draw mixed (fun (bs : List Bool) (env : Env) (L : List Ent) (Γ : Ghost) => match bs with | [b0', b1', b2', b3', b4', b5', b6', b7', b8', b9', b10', b11', b12', b13', b14', b15', b16', b17', b18', b19', b20', b21', b22'] =>  env = [(7, bif b0' then some (.v (.slice A9 p1.length c10)) else none), (8, bif b1' then some (.p 1 0) else none), (9, bif b2' then some (.v (.int .i64 p2.x0)) else none), (10, bif b3' then some (.v (.pointer (some ⟨b14, o15 + (p2.x0 : Int).toNat * 2, none⟩))) else none), (11, bif b4' then some (.v (.pointer (some ⟨b14, o15 + (p2.x0 : Int).toNat * 2 + 0, none⟩))) else none), (12, bif b5' then some (.v (.int .i64 y12.x0)) else none), (13, bif b6' then some (.v (.slice A9 p1.length c10)) else none), (14, bif b7' then some (.p 1 0) else none), (15, bif b8' then some (.v (.int .i64 p2.x0)) else none), (16, bif b9' then some (.v (.pointer (some ⟨b27, o28 + (p2.x0 : Int).toNat * 2, none⟩))) else none), (17, bif b10' then some (.v (.pointer (some ⟨b27, o28 + (p2.x0 : Int).toNat * 2 + 1, none⟩))) else none), (18, bif b11' then some (.v (.int .i64 y25.x1)) else none), (19, bif b12' then some (.p 0 1) else none), (20, bif b13' then some (.v (.slice A1 p0.Plans.length c2)) else none), (21, bif b14' then some (.p 1 0) else none), (22, bif b15' then some (.v (.int .i64 p2.x0)) else none), (23, bif b16' then some (.v (.pointer (some ⟨b40, o41 + (p2.x0 : Int).toNat * 2, none⟩))) else none), (24, bif b17' then some (.v (.pointer (some ⟨b40, o41 + (p2.x0 : Int).toNat * 2 + 0, none⟩))) else none), (25, bif b18' then some (.v (.int .i64 y38.ID)) else none), (26, bif b19' then some (.p 1 1) else none), (27, bif b20' then some (.v (.int .i64 p2.x1)) else none), (28, bif b21' then some (.v (.agg #[.int .i64 y12.x0, .int .i64 y25.x1, .int .i64 y38.ID, .int .i64 p2.x1])) else none), (1, some (.v (.slice A9 p1.length c10))), (3, some (.p 0 0)), (5, some (.p 1 0)), (6, some (.p 2 0))] ∧ L = [.box 25 [.v (.int .i64 p0.Segs), .v (.slice A1 p0.Plans.length c2), .v (.slice A4 p0.Hosts.length c5)], .box 41 [.v (.int .i64 p2.x0), .v (.int .i64 p2.x1)], (bif b22' then .box 94 [.v (.int .i64 y12.x0), .v (.int .i64 y25.x1), .v (.int .i64 y38.ID), .v (.int .i64 p2.x1)] else .box 94 [.v (.int .i64 0), .v (.int .i64 0), .v (.int .i64 0), .v (.int .i64 0)])] ∧ GLe G Γ | _ => False) ⟨rfl, rfl, GLe.refl _⟩ rfl ?_ ?_)) ⟨rfl, rfl, rfl, rfl, rfl, rfl, rfl, rfl, rfl, rfl, rfl, rfl, rfl, rfl, rfl, rfl, rfl, rfl, rfl, rfl, rfl, rfl, rfl, rfl, rfl, rfl, trivial⟩) ⟨⟨_, rfl, rfl⟩, ⟨_, rfl, rfl⟩, ⟨_, rfl, rfl⟩, ⟨_, rfl, rfl⟩, trivial⟩ ⟨.inr rfl, .inr rfl, .inr rfl, trivial⟩ rfl rfl
  · refine ⟨?_, ?_, ?_, ?_, ?_, ?_, ?_, ?_, ?_, ?_, ?_, ?_, ?_, ?_, ?_, ?_, ?_, ?_, ?_, ?_, ?_, ?_, ?_, trivial⟩
    · intro b0' b1' b2' b3' b4' b5' b6' b7' b8' b9' b10' b11' b12' b13' b14' b15' b16' b17' b18' b19' b20' b21' b22'
      rintro ⟨⟩ ⟨⟩ ⟨⟩
      rintro _ _ G56 ⟨rfl, rfl, hle55⟩ K hK
      have h11 := Rep.mono hle55 h11
      exact EL.step tabOk rfl (EL.nil (EX.sub' (hK _ _ _ ⟨rfl, rfl, hle55⟩) ⟨rfl, rfl, rfl, rfl, rfl, rfl, rfl, rfl, rfl, rfl, rfl, rfl, rfl, rfl, rfl, rfl, rfl, rfl, rfl, rfl, rfl, rfl, rfl, rfl, rfl, rfl, trivial⟩))
    · intro b0' b1' b2' b3' b4' b5' b6' b7' b8' b9' b10' b11' b12' b13' b14' b15' b16' b17' b18' b19' b20' b21' b22'
      rintro ⟨⟩ ⟨⟩ ⟨⟩
      rintro _ _ G58 ⟨rfl, rfl, hle57⟩ K hK
      exact EL.step tabOk rfl (EL.nil (EX.sub' (hK _ _ _ ⟨rfl, rfl, hle57⟩) ⟨rfl, rfl, rfl, rfl, rfl, rfl, rfl, rfl, rfl, rfl, rfl, rfl, rfl, rfl, rfl, rfl, rfl, rfl, rfl, rfl, rfl, rfl, rfl, rfl, rfl, rfl, trivial⟩))
    · intro b0' b1' b2' b3' b4' b5' b6' b7' b8' b9' b10' b11' b12' b13' b14' b15' b16' b17' b18' b19' b20' b21' b22'
      rintro ⟨⟩ ⟨⟩ ⟨⟩ ⟨⟩
      rintro _ _ G60 ⟨rfl, rfl, hle59⟩ K hK
      exact EL.step tabOk rfl (EL.nil (EX.sub' (hK _ _ _ ⟨rfl, rfl, hle59⟩) ⟨rfl, rfl, rfl, rfl, rfl, rfl, rfl, rfl, rfl, rfl, rfl, rfl, rfl, rfl, rfl, rfl, rfl, rfl, rfl, rfl, rfl, rfl, rfl, rfl, rfl, rfl, trivial⟩))
    · intro b0' b1' b2' b3' b4' b5' b6' b7' b8' b9' b10' b11' b12' b13' b14' b15' b16' b17' b18' b19' b20' b21' b22'
      rintro ⟨⟩ ⟨⟩ ⟨⟩ ⟨⟩ ⟨⟩
      rintro _ _ G62 ⟨rfl, rfl, hle61⟩ K hK
      have h11 := Rep.mono hle61 h11
      exact EL.indexAt (b := b14) (o' := o15) (n := p1.length) (c := c10) g21 g23 tabOk rfl rfl rfl (by rw [← hA17]; rfl) rfl rfl rfl (EL.nil (EX.sub' (hK _ _ _ ⟨rfl, rfl, hle61⟩) ⟨rfl, rfl, rfl, rfl, rfl, rfl, rfl, rfl, rfl, rfl, rfl, rfl, rfl, rfl, rfl, rfl, rfl, rfl, rfl, rfl, rfl, rfl, rfl, rfl, rfl, rfl, trivial⟩))
    · intro b0' b1' b2' b3' b4' b5' b6' b7' b8' b9' b10' b11' b12' b13' b14' b15' b16' b17' b18' b19' b20' b21' b22'
      rintro ⟨⟩ ⟨⟩ ⟨⟩ ⟨⟩
      rintro _ _ G64 ⟨rfl, rfl, hle63⟩ K hK
      have hc19 := CellsAt.mono hle63 hc19
      exact EL.step tabOk rfl (EL.nil (EX.sub' (hK _ _ _ ⟨rfl, rfl, hle63⟩) ⟨rfl, rfl, rfl, rfl, rfl, rfl, rfl, rfl, rfl, rfl, rfl, rfl, rfl, rfl, rfl, rfl, rfl, rfl, rfl, rfl, rfl, rfl, rfl, rfl, rfl, rfl, trivial⟩))
    · intro b0' b1' b2' b3' b4' b5' b6' b7' b8' b9' b10' b11' b12' b13' b14' b15' b16' b17' b18' b19' b20' b21' b22'
      rintro ⟨⟩ ⟨⟩ ⟨⟩ ⟨⟩
      rintro _ _ G66 ⟨rfl, rfl, hle65⟩ K hK
      have hc19 := CellsAt.mono hle65 hc19
      exact EL.load (CellsAt.fld (j := 0) hc19 rfl rfl) tabOk rfl rfl rfl rfl rfl rfl (EL.nil (EX.sub' (hK _ _ _ ⟨rfl, rfl, hle65⟩) ⟨rfl, rfl, rfl, rfl, rfl, rfl, rfl, rfl, rfl, rfl, rfl, rfl, rfl, rfl, rfl, rfl, rfl, rfl, rfl, rfl, rfl, rfl, rfl, rfl, rfl, rfl, trivial⟩))
    · intro b0' b1' b2' b3' b4' b5' b6' b7' b8' b9' b10' b11' b12' b13' b14' b15' b16' b17' b18' b19' b20' b21' b22'
      rintro ⟨⟩ ⟨⟩ ⟨⟩
      rintro _ _ G68 ⟨rfl, rfl, hle67⟩ K hK
      have h11 := Rep.mono hle67 h11
      exact EL.step tabOk rfl (EL.nil (EX.sub' (hK _ _ _ ⟨rfl, rfl, hle67⟩) ⟨rfl, rfl, rfl, rfl, rfl, rfl, rfl, rfl, rfl, rfl, rfl, rfl, rfl, rfl, rfl, rfl, rfl, rfl, rfl, rfl, rfl, rfl, rfl, rfl, rfl, rfl, trivial⟩))
    · intro b0' b1' b2' b3' b4' b5' b6' b7' b8' b9' b10' b11' b12' b13' b14' b15' b16' b17' b18' b19' b20' b21' b22'
      rintro ⟨⟩ ⟨⟩ ⟨⟩
      rintro _ _ G70 ⟨rfl, rfl, hle69⟩ K hK
      exact EL.step tabOk rfl (EL.nil (EX.sub' (hK _ _ _ ⟨rfl, rfl, hle69⟩) ⟨rfl, rfl, rfl, rfl, rfl, rfl, rfl, rfl, rfl, rfl, rfl, rfl, rfl, rfl, rfl, rfl, rfl, rfl, rfl, rfl, rfl, rfl, rfl, rfl, rfl, rfl, trivial⟩))
    · intro b0' b1' b2' b3' b4' b5' b6' b7' b8' b9' b10' b11' b12' b13' b14' b15' b16' b17' b18' b19' b20' b21' b22'
      rintro ⟨⟩ ⟨⟩ ⟨⟩ ⟨⟩
      rintro _ _ G72 ⟨rfl, rfl, hle71⟩ K hK
      exact EL.step tabOk rfl (EL.nil (EX.sub' (hK _ _ _ ⟨rfl, rfl, hle71⟩) ⟨rfl, rfl, rfl, rfl, rfl, rfl, rfl, rfl, rfl, rfl, rfl, rfl, rfl, rfl, rfl, rfl, rfl, rfl, rfl, rfl, rfl, rfl, rfl, rfl, rfl, rfl, trivial⟩))
    · intro b0' b1' b2' b3' b4' b5' b6' b7' b8' b9' b10' b11' b12' b13' b14' b15' b16' b17' b18' b19' b20' b21' b22'
      rintro ⟨⟩ ⟨⟩ ⟨⟩ ⟨⟩ ⟨⟩
      rintro _ _ G74 ⟨rfl, rfl, hle73⟩ K hK
      have h11 := Rep.mono hle73 h11
      exact EL.indexAt (b := b27) (o' := o28) (n := p1.length) (c := c10) g34 g36 tabOk rfl rfl rfl (by rw [← hA30]; rfl) rfl rfl rfl (EL.nil (EX.sub' (hK _ _ _ ⟨rfl, rfl, hle73⟩) ⟨rfl, rfl, rfl, rfl, rfl, rfl, rfl, rfl, rfl, rfl, rfl, rfl, rfl, rfl, rfl, rfl, rfl, rfl, rfl, rfl, rfl, rfl, rfl, rfl, rfl, rfl, trivial⟩))
    · intro b0' b1' b2' b3' b4' b5' b6' b7' b8' b9' b10' b11' b12' b13' b14' b15' b16' b17' b18' b19' b20' b21' b22'
      rintro ⟨⟩ ⟨⟩ ⟨⟩ ⟨⟩
      rintro _ _ G76 ⟨rfl, rfl, hle75⟩ K hK
      have hc32 := CellsAt.mono hle75 hc32
      exact EL.step tabOk rfl (EL.nil (EX.sub' (hK _ _ _ ⟨rfl, rfl, hle75⟩) ⟨rfl, rfl, rfl, rfl, rfl, rfl, rfl, rfl, rfl, rfl, rfl, rfl, rfl, rfl, rfl, rfl, rfl, rfl, rfl, rfl, rfl, rfl, rfl, rfl, rfl, rfl, trivial⟩))
    · intro b0' b1' b2' b3' b4' b5' b6' b7' b8' b9' b10' b11' b12' b13' b14' b15' b16' b17' b18' b19' b20' b21' b22'
      rintro ⟨⟩ ⟨⟩ ⟨⟩ ⟨⟩
      rintro _ _ G78 ⟨rfl, rfl, hle77⟩ K hK
      have hc32 := CellsAt.mono hle77 hc32
      exact EL.load (CellsAt.fld (j := 1) hc32 rfl rfl) tabOk rfl rfl rfl rfl rfl rfl (EL.nil (EX.sub' (hK _ _ _ ⟨rfl, rfl, hle77⟩) ⟨rfl, rfl, rfl, rfl, rfl, rfl, rfl, rfl, rfl, rfl, rfl, rfl, rfl, rfl, rfl, rfl, rfl, rfl, rfl, rfl, rfl, rfl, rfl, rfl, rfl, rfl, trivial⟩))
    · intro b0' b1' b2' b3' b4' b5' b6' b7' b8' b9' b10' b11' b12' b13' b14' b15' b16' b17' b18' b19' b20' b21' b22'
      rintro ⟨⟩ ⟨⟩ ⟨⟩
      rintro _ _ G80 ⟨rfl, rfl, hle79⟩ K hK
      have h3 := Rep.mono hle79 h3
      have h6 := Rep.mono hle79 h6
      exact EL.step tabOk rfl (EL.nil (EX.sub' (hK _ _ _ ⟨rfl, rfl, hle79⟩) ⟨rfl, rfl, rfl, rfl, rfl, rfl, rfl, rfl, rfl, rfl, rfl, rfl, rfl, rfl, rfl, rfl, rfl, rfl, rfl, rfl, rfl, rfl, rfl, rfl, rfl, rfl, trivial⟩))
    · intro b0' b1' b2' b3' b4' b5' b6' b7' b8' b9' b10' b11' b12' b13' b14' b15' b16' b17' b18' b19' b20' b21' b22'
      rintro ⟨⟩ ⟨⟩ ⟨⟩ ⟨⟩
      rintro _ _ G82 ⟨rfl, rfl, hle81⟩ K hK
      have h3 := Rep.mono hle81 h3
      have h6 := Rep.mono hle81 h6
      exact EL.step tabOk rfl (EL.nil (EX.sub' (hK _ _ _ ⟨rfl, rfl, hle81⟩) ⟨rfl, rfl, rfl, rfl, rfl, rfl, rfl, rfl, rfl, rfl, rfl, rfl, rfl, rfl, rfl, rfl, rfl, rfl, rfl, rfl, rfl, rfl, rfl, rfl, rfl, rfl, trivial⟩))
    · intro b0' b1' b2' b3' b4' b5' b6' b7' b8' b9' b10' b11' b12' b13' b14' b15' b16' b17' b18' b19' b20' b21' b22'
      rintro ⟨⟩ ⟨⟩ ⟨⟩
      rintro _ _ G84 ⟨rfl, rfl, hle83⟩ K hK
      exact EL.step tabOk rfl (EL.nil (EX.sub' (hK _ _ _ ⟨rfl, rfl, hle83⟩) ⟨rfl, rfl, rfl, rfl, rfl, rfl, rfl, rfl, rfl, rfl, rfl, rfl, rfl, rfl, rfl, rfl, rfl, rfl, rfl, rfl, rfl, rfl, rfl, rfl, rfl, rfl, trivial⟩))
    · intro b0' b1' b2' b3' b4' b5' b6' b7' b8' b9' b10' b11' b12' b13' b14' b15' b16' b17' b18' b19' b20' b21' b22'
      rintro ⟨⟩ ⟨⟩ ⟨⟩ ⟨⟩
      rintro _ _ G86 ⟨rfl, rfl, hle85⟩ K hK
      exact EL.step tabOk rfl (EL.nil (EX.sub' (hK _ _ _ ⟨rfl, rfl, hle85⟩) ⟨rfl, rfl, rfl, rfl, rfl, rfl, rfl, rfl, rfl, rfl, rfl, rfl, rfl, rfl, rfl, rfl, rfl, rfl, rfl, rfl, rfl, rfl, rfl, rfl, rfl, rfl, trivial⟩))
    · intro b0' b1' b2' b3' b4' b5' b6' b7' b8' b9' b10' b11' b12' b13' b14' b15' b16' b17' b18' b19' b20' b21' b22'
      rintro ⟨⟩ ⟨⟩ ⟨⟩ ⟨⟩ ⟨⟩
      rintro _ _ G88 ⟨rfl, rfl, hle87⟩ K hK
      have h3 := Rep.mono hle87 h3
      exact EL.indexAt (b := b40) (o' := o41) (n := p0.Plans.length) (c := c2) g47 g49 tabOk rfl rfl rfl (by rw [← hA43]; rfl) rfl rfl rfl (EL.nil (EX.sub' (hK _ _ _ ⟨rfl, rfl, hle87⟩) ⟨rfl, rfl, rfl, rfl, rfl, rfl, rfl, rfl, rfl, rfl, rfl, rfl, rfl, rfl, rfl, rfl, rfl, rfl, rfl, rfl, rfl, rfl, rfl, rfl, rfl, rfl, trivial⟩))
    · intro b0' b1' b2' b3' b4' b5' b6' b7' b8' b9' b10' b11' b12' b13' b14' b15' b16' b17' b18' b19' b20' b21' b22'
      rintro ⟨⟩ ⟨⟩ ⟨⟩ ⟨⟩
      rintro _ _ G90 ⟨rfl, rfl, hle89⟩ K hK
      have hc45 := CellsAt.mono hle89 hc45
      have h53 := Rep.mono hle89 h53
      exact EL.step tabOk rfl (EL.nil (EX.sub' (hK _ _ _ ⟨rfl, rfl, hle89⟩) ⟨rfl, rfl, rfl, rfl, rfl, rfl, rfl, rfl, rfl, rfl, rfl, rfl, rfl, rfl, rfl, rfl, rfl, rfl, rfl, rfl, rfl, rfl, rfl, rfl, rfl, rfl, trivial⟩))
    · intro b0' b1' b2' b3' b4' b5' b6' b7' b8' b9' b10' b11' b12' b13' b14' b15' b16' b17' b18' b19' b20' b21' b22'
      rintro ⟨⟩ ⟨⟩ ⟨⟩ ⟨⟩
      rintro _ _ G92 ⟨rfl, rfl, hle91⟩ K hK
      have hc45 := CellsAt.mono hle91 hc45
      have h53 := Rep.mono hle91 h53
      exact EL.load (CellsAt.fld (j := 0) hc45 rfl rfl) tabOk rfl rfl rfl rfl rfl rfl (EL.nil (EX.sub' (hK _ _ _ ⟨rfl, rfl, hle91⟩) ⟨rfl, rfl, rfl, rfl, rfl, rfl, rfl, rfl, rfl, rfl, rfl, rfl, rfl, rfl, rfl, rfl, rfl, rfl, rfl, rfl, rfl, rfl, rfl, rfl, rfl, rfl, trivial⟩))
    · intro b0' b1' b2' b3' b4' b5' b6' b7' b8' b9' b10' b11' b12' b13' b14' b15' b16' b17' b18' b19' b20' b21' b22'
      rintro ⟨⟩ ⟨⟩ ⟨⟩
      rintro _ _ G94 ⟨rfl, rfl, hle93⟩ K hK
      exact EL.step tabOk rfl (EL.nil (EX.sub' (hK _ _ _ ⟨rfl, rfl, hle93⟩) ⟨rfl, rfl, rfl, rfl, rfl, rfl, rfl, rfl, rfl, rfl, rfl, rfl, rfl, rfl, rfl, rfl, rfl, rfl, rfl, rfl, rfl, rfl, rfl, rfl, rfl, rfl, trivial⟩))
    · intro b0' b1' b2' b3' b4' b5' b6' b7' b8' b9' b10' b11' b12' b13' b14' b15' b16' b17' b18' b19' b20' b21' b22'
      rintro ⟨⟩ ⟨⟩ ⟨⟩ ⟨⟩
      rintro _ _ G96 ⟨rfl, rfl, hle95⟩ K hK
      exact EL.step tabOk rfl (EL.nil (EX.sub' (hK _ _ _ ⟨rfl, rfl, hle95⟩) ⟨rfl, rfl, rfl, rfl, rfl, rfl, rfl, rfl, rfl, rfl, rfl, rfl, rfl, rfl, rfl, rfl, rfl, rfl, rfl, rfl, rfl, rfl, rfl, rfl, rfl, rfl, trivial⟩))
    · intro b0' b1' b2' b3' b4' b5' b6' b7' b8' b9' b10' b11' b12' b13' b14' b15' b16' b17' b18' b19' b20' b21' b22'
      rintro ⟨⟩ ⟨⟩ ⟨⟩ ⟨⟩ ⟨⟩ ⟨⟩
      rintro _ _ G98 ⟨rfl, rfl, hle97⟩ K hK
      exact EL.step tabOk rfl (EL.nil (EX.sub' (hK _ _ _ ⟨rfl, rfl, hle97⟩) ⟨rfl, rfl, rfl, rfl, rfl, rfl, rfl, rfl, rfl, rfl, rfl, rfl, rfl, rfl, rfl, rfl, rfl, rfl, rfl, rfl, rfl, rfl, rfl, rfl, rfl, rfl, trivial⟩))
    · intro b0' b1' b2' b3' b4' b5' b6' b7' b8' b9' b10' b11' b12' b13' b14' b15' b16' b17' b18' b19' b20' b21' b22'
      rintro ⟨⟩ ⟨⟩ ⟨⟩ ⟨⟩ ⟨⟩ ⟨⟩ ⟨⟩ ⟨⟩ ⟨⟩ ⟨⟩ ⟨⟩ ⟨⟩ ⟨⟩ ⟨⟩ ⟨⟩ ⟨⟩ ⟨⟩ ⟨⟩ ⟨⟩ ⟨⟩ ⟨⟩ ⟨⟩ ⟨⟩ ⟨⟩
      rintro _ _ G100 ⟨rfl, rfl, hle99⟩ K hK
      exact EL.step tabOk rfl (EL.nil (EX.sub' (hK _ _ _ ⟨rfl, rfl, hle99⟩) ⟨rfl, rfl, rfl, rfl, rfl, rfl, rfl, rfl, rfl, rfl, rfl, rfl, rfl, rfl, rfl, rfl, rfl, rfl, rfl, rfl, rfl, rfl, rfl, rfl, rfl, rfl, trivial⟩))
  rintro _ _ G102 ⟨rfl, rfl, hle101⟩
  have h3 := Rep.mono hle101 h3
  have h6 := Rep.mono hle101 h6
  exact EX.seq (E.ret (EX.retE H tabOk rfl rfl))
theorem tree_own_enters : Enters Try.prog 22 := ⟨_, Try.func22, rfl, rfl⟩
set_option maxHeartbeats 4000000 in
theorem tree_own_ok {k : Nat} {p0 : Lan} {p1 : (List arr2_i64)} {p2 : Int} {r : (arr2_i64 × Bool)} (H : tree_own k p0 p1 p2 = some r) {G : Ghost} {w : World} (hG : Holds G w) {v0 : Value} (h0 : R G p0 v0) {v1 : Value} (h1 : R G p1 v1) : Ret Try.prog 22 [v0, v1, .int .i64 p2] w G (fun G v => R2 G r v) := by
  obtain ⟨v7, v8, rfl, h3, h6⟩ := h0
  obtain ⟨A1, c2, rfl, h3⟩ := Sl.open h3
  obtain ⟨A4, c5, rfl, h6⟩ := Sl.open h6
  obtain ⟨A9, c10, rfl, h11⟩ := Sl.open h1
  unfold tree_own at H
  refine start Try.func22 rfl Try.ntmps22 rfl hG (E.seq (E.region (EL.run tabOk 3 rfl (EL.nil (EX.seq (E.seq (E.region (EL.run tabOk 2 rfl ?_))))))))
  obtain ⟨x12, hx13, H⟩ := bind_some H
  refine EL.call rfl rfl rfl rfl lan_On_enters (fun w hw => lan_On_ok hx13 hw ⟨_, _, rfl, h3, h6⟩) (fun v16 G15 hle14 hv17 => ?_)
  have h11 := Rep.mono hle14 h11; have h3 := Rep.mono hle14 h3; have h6 := Rep.mono hle14 h6
  obtain ⟨u18, u19, u20, rfl, h21, h22, h23⟩ := hv17
  obtain ⟨A24, c25, rfl, h26⟩ := Sl.open h21
  obtain ⟨A27, c28, rfl, h29⟩ := Sl.open h22
  obtain rfl : _ = _ := h23
  refine EL.run tabOk 7 rfl (EL.nil (EX.seq (E.seq (E.region (EL.run tabOk 1 rfl (EL.nil (EX.seq (E.seq (E.seq (E.region (EL.run tabOk 3 rfl (EL.nil (EX.seq (E.nilRow 11 94 4 rfl (E.join (fun env L Γ => ∃ (l30 : (List Vec)) (es31 : List Value), env = [(6, some (.p 1 0)), (9, some (.v (.slice A27 x12.2.1.length c28))), (11, some (.row 2))] ∧ L = [.box 25 [.v (.int .i64 p0.Segs), .v (.slice A1 p0.Plans.length c2), .v (.slice A4 p0.Hosts.length c5)], .box 41 [.v (.int .i64 0), .v (.int .i64 0)], .row 94 4 l30.length es31] ∧ GLe G15 Γ ∧ Els Γ l30 es31 ∧ tree_own_j1 k x12 l30 = some r) ?_ (fun hj33 => ?_))))))))))))))))
  · skip
    rintro _ _ G35 ⟨l30, es31, rfl, rfl, hle34, h32, H⟩
    unfold tree_own_j1 at H
    have h29 := Rep.mono hle34 h29; have h3 := Rep.mono hle34 h3; have h6 := Rep.mono hle34 h6
    refine EX.seq (E.seq (E.region (EL.run tabOk 1 rfl (EL.pubRow (xs := l30) 2 rfl h32 rfl rfl (fun k36 A37 c38 G41 hle39 h40 => ?_)))))
    have h29 := Rep.mono hle39 h29; have h3 := Rep.mono hle39 h3; have h6 := Rep.mono hle39 h6
    obtain ⟨x42, hx43, H⟩ := bind_some H
    refine EL.call rfl rfl rfl rfl vec_Best_enters (fun w hw => vec_Best_ok hx43 hw h40) (fun v46 G45 hle44 hv47 => ?_)
    have h29 := Rep.mono hle44 h29; have h3 := Rep.mono hle44 h3; have h6 := Rep.mono hle44 h6
    obtain ⟨u48, u49, rfl, h50, h51⟩ := hv47
    obtain rfl : _ = _ := h50
    obtain rfl : _ = _ := h51
    refine EL.run tabOk 5 rfl (EL.nil (EX.seq (E.seq (E.seq (E.region (EL.run tabOk 2 rfl (EL.nil (EX.seq (E.cond rfl H (fun hb H => ?_) (fun hb H => ?_))))))))))
    · skip
      exact E.seq (E.region (EL.run tabOk 3 rfl (EL.nil (EX.seq (E.ret (EX.retT (EX.retE H tabOk rfl ⟨_, _, rfl, rfl, rfl⟩)))))))
    · skip
      refine E.skip (EX.seq (E.seq (E.region (EL.run tabOk 2 rfl ?_))))
      obtain ⟨y52, hy53, H⟩ := bind_some H
      refine EL.index hy53 h29 tabOk rfl rfl rfl rfl rfl rfl rfl rfl (fun b54 o55 u56 hu57 hc58 => ?_)
      obtain rfl : _ = _ := hu57
      exact EL.load hc58 tabOk rfl rfl rfl rfl rfl rfl (EL.run tabOk 2 rfl (EL.nil (EX.seq (E.ret (EX.retE H tabOk rfl ⟨_, _, rfl, rfl, rfl⟩)))))
  · skip
    refine E.block (E.fewer (E.loop (fun n env L Γ => ∃ (i59 : Int) (l60 : (List Vec)) (es61 : List Value), env = [(1, some (.v (.slice A9 p1.length c10))), (3, some (.p 0 0)), (6, some (.p 1 0)), (9, some (.v (.slice A27 x12.2.1.length c28))), (11, some (.row 2)), (23, some (.v (.slice A27 x12.2.1.length c28))), (24, some (.v (.int .i64 (x12.2.1.length : Int)))), (25, some (.v (.int .i64 i59)))] ∧ L = [.box 25 [.v (.int .i64 p0.Segs), .v (.slice A1 p0.Plans.length c2), .v (.slice A4 p0.Hosts.length c5)], .box 41 [.v (.int .i64 0), .v (.int .i64 0)], .row 94 4 l60.length es61] ∧ GLe G15 Γ ∧ Els Γ l60 es61 ∧ loopN (fun _ _ => none) (tree_own_s2 k p0 p1 x12) n i59 l60 = some r) k ⟨0, [], [], rfl, rfl, GLe.refl _, All2.nil, H⟩ ?_) ⟨⟨_, rfl, rfl⟩, ⟨_, rfl, rfl⟩, ⟨_, rfl, rfl⟩, ⟨_, rfl, rfl⟩, ⟨_, rfl, rfl⟩, ⟨_, rfl, rfl⟩, ⟨_, rfl, rfl⟩, ⟨_, rfl, rfl⟩, trivial⟩ ⟨.inr rfl, .inr rfl, .inr rfl, trivial⟩ rfl rfl)
    rintro n67 _ _ G65 ⟨i59, l60, es61, rfl, rfl, hle63, h62, H⟩ K hK66
    obtain _ | n67 := n67
    · exact none_ne H
    rw [loopN] at H; unfold tree_own_s2 at H
    have h11 := Rep.mono hle63 h11; have h29 := Rep.mono hle63 h29; have h3 := Rep.mono hle63 h3; have h6 := Rep.mono hle63 h6
    refine E.seq (E.region (EL.run tabOk 1 rfl (EL.nil (EX.seq (E.seq (E.cond rfl H (fun hb H => ?_) (fun hb H => ?_)))))))
    · skip
      refine E.skip (EX.seq (E.seq (E.block (E.seq (E.region ?_)))))
      obtain ⟨y68, hy69, H⟩ := bind_some H
      refine EL.index hy69 h29 tabOk rfl rfl rfl rfl rfl rfl rfl rfl (fun b70 o71 u72 hu73 hc74 => ?_)
      obtain rfl : _ = _ := hu73
      refine EL.load hc74 tabOk rfl rfl rfl rfl rfl rfl (EL.run tabOk 2 rfl (EL.nil (EX.seq (E.region (EL.run tabOk 4 rfl ?_)))))
      obtain ⟨x75, hx76, H⟩ := bind_some H
      refine EL.call rfl rfl rfl rfl tree_told_enters (fun w hw => tree_told_ok hx76 hw ⟨_, _, rfl, h3, h6⟩ h11) (fun v79 G78 hle77 hv80 => ?_)
      have h11 := Rep.mono hle77 h11; have h29 := Rep.mono hle77 h29; have h3 := Rep.mono hle77 h3; have h6 := Rep.mono hle77 h6; have h62 := Els.mono h62 hle77
      obtain rfl : _ = _ := hv80
      refine EL.run tabOk 1 rfl ?_
      obtain ⟨l81, hp82, H⟩ := bind_some H
      refine EL.push hp82 h62 (show R G78 x75 (.agg #[.int .i64 x75.Root, .int .i64 x75.Cost, .int .i64 x75.Bridge, .int .i64 x75.Port]) from rfl) tabOk rfl rfl rfl rfl rfl rfl rfl rfl rfl rfl rfl rfl rfl rfl rfl (fun k83 v84 es85 h86 => ?_)
      exact EL.run tabOk 1 rfl (EL.nil (EX.block (EX.seq (E.region (EL.run tabOk 2 rfl (EL.nil (EX.fewer (hK66 n67 _ _ _ (Nat.lt_succ_self _) ⟨wr (i59 + 1), l81, es85, rfl, rfl, (GLe.trans hle63 hle77), h86, H⟩) ⟨⟨_, rfl, rfl⟩, ⟨_, rfl, rfl⟩, ⟨_, rfl, rfl⟩, ⟨_, rfl, rfl⟩, ⟨_, rfl, rfl⟩, ⟨_, rfl, rfl⟩, ⟨_, rfl, rfl⟩, ⟨_, rfl, rfl⟩, trivial⟩ ⟨.inr rfl, .inr rfl, .inr rfl, trivial⟩ rfl rfl)))))))
    · skip
      exact E.exit (EX.out (EX.out (EX.hit (EX.fewer (hj33 _ _ _ ⟨l60, es61, rfl, rfl, hle63, h62, H⟩) ⟨⟨_, rfl, rfl⟩, ⟨_, rfl, rfl⟩, ⟨_, rfl, rfl⟩, trivial⟩ ⟨.inr rfl, .inr rfl, .inr rfl, trivial⟩ rfl rfl))))
theorem vec_Far_enters : Enters Try.prog 38 := ⟨_, Try.func38, rfl, rfl⟩
set_option maxHeartbeats 4000000 in
theorem vec_Far_ok {k : Nat} {p0 : Vec} {p1 : Int} {r : (Vec × Int)} (H : vec_Far k p0 p1 = some r) {G : Ghost} {w : World} (hG : Holds G w)  : Ret Try.prog 38 [.agg #[.int .i64 p0.Root, .int .i64 p0.Cost, .int .i64 p0.Bridge, .int .i64 p0.Port], .int .i64 p1] w G (fun G v => R2 G r v) := by
  unfold vec_Far at H
  refine start Try.func38 rfl Try.ntmps38 rfl hG (E.seq (E.region (EL.run tabOk 3 rfl (EL.nil (EX.seq (E.seq (E.seq (E.join (fun env L Γ => ∃ (b1 : Bool), env = [(1, some (.v (.int .i64 p1))), (2, some (.p 0 0)), (4, some (.p 1 0)), (13, some (.v (.bool b1)))] ∧ L = [.box 94 [.v (.int .i64 p0.Root), .v (.int .i64 p0.Cost), .v (.int .i64 p0.Bridge), .v (.int .i64 p0.Port)], .box 94 [.v (.int .i64 0), .v (.int .i64 0), .v (.int .i64 0), .v (.int .i64 0)]] ∧ GLe G Γ ∧ vec_Far_j1 k p0 p1 b1 = some r) ?_ (fun hj2 => ?_)))))))))
  · skip
    rintro _ _ G4 ⟨b1, rfl, rfl, hle3, H⟩
    unfold vec_Far_j1 at H
    refine EX.seq (E.cond rfl H (fun hb H => ?_) (fun hb H => ?_))
    · skip
      exact E.seq (E.region (EL.run tabOk 3 rfl (EL.nil (EX.seq (E.ret (EX.retT (EX.retE H tabOk rfl ⟨_, _, rfl, rfl, rfl⟩)))))))
    · skip
      exact E.skip (EX.seq (E.seq (E.region (EL.run tabOk 7 rfl (EL.nil (EX.seq (E.seq (E.region (EL.run tabOk 3 rfl (EL.nil (EX.seq (E.ret (EX.retE H tabOk rfl ⟨_, _, rfl, rfl, rfl⟩)))))))))))))
  · skip
    refine E.region (EL.run tabOk 1 rfl ?_)
    obtain ⟨x5, hx6, H⟩ := bind_some H
    refine EL.call rfl rfl rfl rfl vec_Right_enters (fun w hw => vec_Right_ok hx6 hw ) (fun v9 G8 hle7 hv10 => ?_)
    obtain rfl : _ = _ := hv10
    refine EL.run tabOk 2 rfl (EL.split (s := 9) rfl H (fun hb H => ?_) (fun hb H => ?_))
    · skip
      exact EL.run tabOk 4 rfl (EL.nil (EX.fewer (hj2 _ _ _ ⟨true, rfl, rfl, hle7, H⟩) ⟨⟨_, rfl, rfl⟩, ⟨_, rfl, rfl⟩, ⟨_, rfl, rfl⟩, ⟨_, rfl, rfl⟩, trivial⟩ ⟨.inr rfl, .inr rfl, trivial⟩ rfl rfl))
    · skip
      refine EL.run tabOk 1 rfl ?_
      obtain ⟨x11, hx12, H⟩ := bind_some H
      refine EL.call rfl rfl rfl rfl vec_in_enters (fun w hw => vec_in_ok hx12 hw ) (fun v15 G14 hle13 hv16 => ?_)
      obtain rfl : _ = _ := hv16
      exact EL.run tabOk 2 rfl (EL.nil (EX.fewer (hj2 _ _ _ ⟨!x11, rfl, rfl, (GLe.trans hle7 hle13), H⟩) ⟨⟨_, rfl, rfl⟩, ⟨_, rfl, rfl⟩, ⟨_, rfl, rfl⟩, ⟨_, rfl, rfl⟩, trivial⟩ ⟨.inr rfl, .inr rfl, trivial⟩ rfl rfl))
theorem tree_root_enters : Enters Try.prog 21 := ⟨_, Try.func21, rfl, rfl⟩
set_option maxHeartbeats 4000000 in
theorem tree_root_ok {k : Nat} {p0 : Lan} {p1 : (List arr2_i64)} {p2 : Int} {r : Int} (H : tree_root k p0 p1 p2 = some r) {G : Ghost} {w : World} (hG : Holds G w) {v0 : Value} (h0 : R G p0 v0) {v1 : Value} (h1 : R G p1 v1) : Ret Try.prog 21 [v0, v1, .int .i64 p2] w G (fun G v => R G r v) := by
  obtain ⟨v7, v8, rfl, h3, h6⟩ := h0
  obtain ⟨A1, c2, rfl, h3⟩ := Sl.open h3
  obtain ⟨A4, c5, rfl, h6⟩ := Sl.open h6
  obtain ⟨A9, c10, rfl, h11⟩ := Sl.open h1
  unfold tree_root at H
  refine start Try.func21 rfl Try.ntmps21 rfl hG (E.seq (E.region (EL.run tabOk 2 rfl (EL.nil (EX.seq (E.seq (E.seq ?_)))))))
  obtain ⟨y12, hy13, H⟩ := bind_some H; obtain ⟨g21, g22, g23, g24⟩ := idx_some hy13; obtain ⟨b14, o15, u16, hA17, hn20, hu18, hc19⟩ := idx_at hy13 h11
  obtain rfl : _ = _ := hu18
  obtain ⟨y25, hy26, H⟩ := bind_some H; obtain ⟨g34, g35, g36, g37⟩ := idx_some hy26; obtain ⟨b27, o28, u29, hA30, hn33, hu31, hc32⟩ := idx_at hy26 h3
  obtain ⟨v41, rfl, h40⟩ := hu31
  obtain ⟨A38, c39, rfl, h40⟩ := Sl.open h40
  refine E.fewer (env' := [(1, some (.v (.slice A9 p1.length c10))), (2, some (.v (.int .i64 p2))), (3, some (.p 0 0))]) (L' := [.box 25 [.v (.int .i64 p0.Segs), .v (.slice A1 p0.Plans.length c2), .v (.slice A4 p0.Hosts.length c5)]]) (E.sub' ((E.draw mixed (fun (bs : List Bool) (env : Env) (L : List Ent) (Γ : Ghost) => match bs with | [b0', b1', b2', b3', b4', b5', b6', b7', b8', b9', b10', b11'] =>  env = [(17, bif b0' then some (.v (.slice A9 p1.length c10)) else none), (18, bif b1' then some (.v (.int .i64 p2)) else none), (19, bif b2' then some (.v (.pointer (some ⟨b14, o15 + (p2 : Int).toNat * 2, none⟩))) else none), (20, bif b3' then some (.v (.pointer (some ⟨b14, o15 + (p2 : Int).toNat * 2 + 0, none⟩))) else none), (21, bif b4' then some (.v (.int .i64 y12.x0)) else none), (22, bif b5' then some (.p 0 1) else none), (23, bif b6' then some (.v (.slice A1 p0.Plans.length c2)) else none), (24, bif b7' then some (.v (.int .i64 p2)) else none), (25, bif b8' then some (.v (.pointer (some ⟨b27, o28 + (p2 : Int).toNat * 2, none⟩))) else none), (26, bif b9' then some (.v (.pointer (some ⟨b27, o28 + (p2 : Int).toNat * 2 + 0, none⟩))) else none), (27, bif b10' then some (.v (.int .i64 y25.ID)) else none), (28, bif b11' then some (.v (.bool (y12.x0 == y25.ID))) else none), (1, some (.v (.slice A9 p1.length c10))), (2, some (.v (.int .i64 p2))), (3, some (.p 0 0))] ∧ L = [.box 25 [.v (.int .i64 p0.Segs), .v (.slice A1 p0.Plans.length c2), .v (.slice A4 p0.Hosts.length c5)]] ∧ GLe G Γ | _ => False) ⟨rfl, rfl, GLe.refl _⟩ rfl ?_ ?_)) ⟨rfl, rfl, rfl, rfl, rfl, rfl, rfl, rfl, rfl, rfl, rfl, rfl, rfl, rfl, rfl, trivial⟩) ⟨⟨_, rfl, rfl⟩, ⟨_, rfl, rfl⟩, ⟨_, rfl, rfl⟩, trivial⟩ ⟨.inr rfl, trivial⟩ rfl rfl
  · refine ⟨?_, ?_, ?_, ?_, ?_, ?_, ?_, ?_, ?_, ?_, ?_, ?_, trivial⟩
    · intro b0' b1' b2' b3' b4' b5' b6' b7' b8' b9' b10' b11'
      rintro ⟨⟩ ⟨⟩
      rintro _ _ G43 ⟨rfl, rfl, hle42⟩ K hK
      have h11 := Rep.mono hle42 h11
      exact EL.step tabOk rfl (EL.nil (EX.sub' (hK _ _ _ ⟨rfl, rfl, hle42⟩) ⟨rfl, rfl, rfl, rfl, rfl, rfl, rfl, rfl, rfl, rfl, rfl, rfl, rfl, rfl, rfl, trivial⟩))
    · intro b0' b1' b2' b3' b4' b5' b6' b7' b8' b9' b10' b11'
      rintro ⟨⟩ ⟨⟩
      rintro _ _ G45 ⟨rfl, rfl, hle44⟩ K hK
      exact EL.step tabOk rfl (EL.nil (EX.sub' (hK _ _ _ ⟨rfl, rfl, hle44⟩) ⟨rfl, rfl, rfl, rfl, rfl, rfl, rfl, rfl, rfl, rfl, rfl, rfl, rfl, rfl, rfl, trivial⟩))
    · intro b0' b1' b2' b3' b4' b5' b6' b7' b8' b9' b10' b11'
      rintro ⟨⟩ ⟨⟩ ⟨⟩ ⟨⟩
      rintro _ _ G47 ⟨rfl, rfl, hle46⟩ K hK
      have h11 := Rep.mono hle46 h11
      exact EL.indexAt (b := b14) (o' := o15) (n := p1.length) (c := c10) g21 g23 tabOk rfl rfl rfl (by rw [← hA17]; rfl) rfl rfl rfl (EL.nil (EX.sub' (hK _ _ _ ⟨rfl, rfl, hle46⟩) ⟨rfl, rfl, rfl, rfl, rfl, rfl, rfl, rfl, rfl, rfl, rfl, rfl, rfl, rfl, rfl, trivial⟩))
    · intro b0' b1' b2' b3' b4' b5' b6' b7' b8' b9' b10' b11'
      rintro ⟨⟩ ⟨⟩ ⟨⟩
      rintro _ _ G49 ⟨rfl, rfl, hle48⟩ K hK
      have hc19 := CellsAt.mono hle48 hc19
      exact EL.step tabOk rfl (EL.nil (EX.sub' (hK _ _ _ ⟨rfl, rfl, hle48⟩) ⟨rfl, rfl, rfl, rfl, rfl, rfl, rfl, rfl, rfl, rfl, rfl, rfl, rfl, rfl, rfl, trivial⟩))
    · intro b0' b1' b2' b3' b4' b5' b6' b7' b8' b9' b10' b11'
      rintro ⟨⟩ ⟨⟩ ⟨⟩
      rintro _ _ G51 ⟨rfl, rfl, hle50⟩ K hK
      have hc19 := CellsAt.mono hle50 hc19
      exact EL.load (CellsAt.fld (j := 0) hc19 rfl rfl) tabOk rfl rfl rfl rfl rfl rfl (EL.nil (EX.sub' (hK _ _ _ ⟨rfl, rfl, hle50⟩) ⟨rfl, rfl, rfl, rfl, rfl, rfl, rfl, rfl, rfl, rfl, rfl, rfl, rfl, rfl, rfl, trivial⟩))
    · intro b0' b1' b2' b3' b4' b5' b6' b7' b8' b9' b10' b11'
      rintro ⟨⟩ ⟨⟩
      rintro _ _ G53 ⟨rfl, rfl, hle52⟩ K hK
      have h3 := Rep.mono hle52 h3
      have h6 := Rep.mono hle52 h6
      exact EL.step tabOk rfl (EL.nil (EX.sub' (hK _ _ _ ⟨rfl, rfl, hle52⟩) ⟨rfl, rfl, rfl, rfl, rfl, rfl, rfl, rfl, rfl, rfl, rfl, rfl, rfl, rfl, rfl, trivial⟩))
    · intro b0' b1' b2' b3' b4' b5' b6' b7' b8' b9' b10' b11'
      rintro ⟨⟩ ⟨⟩ ⟨⟩
      rintro _ _ G55 ⟨rfl, rfl, hle54⟩ K hK
      have h3 := Rep.mono hle54 h3
      have h6 := Rep.mono hle54 h6
      exact EL.step tabOk rfl (EL.nil (EX.sub' (hK _ _ _ ⟨rfl, rfl, hle54⟩) ⟨rfl, rfl, rfl, rfl, rfl, rfl, rfl, rfl, rfl, rfl, rfl, rfl, rfl, rfl, rfl, trivial⟩))
    · intro b0' b1' b2' b3' b4' b5' b6' b7' b8' b9' b10' b11'
      rintro ⟨⟩ ⟨⟩
      rintro _ _ G57 ⟨rfl, rfl, hle56⟩ K hK
      exact EL.step tabOk rfl (EL.nil (EX.sub' (hK _ _ _ ⟨rfl, rfl, hle56⟩) ⟨rfl, rfl, rfl, rfl, rfl, rfl, rfl, rfl, rfl, rfl, rfl, rfl, rfl, rfl, rfl, trivial⟩))
    · intro b0' b1' b2' b3' b4' b5' b6' b7' b8' b9' b10' b11'
      rintro ⟨⟩ ⟨⟩ ⟨⟩ ⟨⟩
      rintro _ _ G59 ⟨rfl, rfl, hle58⟩ K hK
      have h3 := Rep.mono hle58 h3
      exact EL.indexAt (b := b27) (o' := o28) (n := p0.Plans.length) (c := c2) g34 g36 tabOk rfl rfl rfl (by rw [← hA30]; rfl) rfl rfl rfl (EL.nil (EX.sub' (hK _ _ _ ⟨rfl, rfl, hle58⟩) ⟨rfl, rfl, rfl, rfl, rfl, rfl, rfl, rfl, rfl, rfl, rfl, rfl, rfl, rfl, rfl, trivial⟩))
    · intro b0' b1' b2' b3' b4' b5' b6' b7' b8' b9' b10' b11'
      rintro ⟨⟩ ⟨⟩ ⟨⟩
      rintro _ _ G61 ⟨rfl, rfl, hle60⟩ K hK
      have hc32 := CellsAt.mono hle60 hc32
      have h40 := Rep.mono hle60 h40
      exact EL.step tabOk rfl (EL.nil (EX.sub' (hK _ _ _ ⟨rfl, rfl, hle60⟩) ⟨rfl, rfl, rfl, rfl, rfl, rfl, rfl, rfl, rfl, rfl, rfl, rfl, rfl, rfl, rfl, trivial⟩))
    · intro b0' b1' b2' b3' b4' b5' b6' b7' b8' b9' b10' b11'
      rintro ⟨⟩ ⟨⟩ ⟨⟩
      rintro _ _ G63 ⟨rfl, rfl, hle62⟩ K hK
      have hc32 := CellsAt.mono hle62 hc32
      have h40 := Rep.mono hle62 h40
      exact EL.load (CellsAt.fld (j := 0) hc32 rfl rfl) tabOk rfl rfl rfl rfl rfl rfl (EL.nil (EX.sub' (hK _ _ _ ⟨rfl, rfl, hle62⟩) ⟨rfl, rfl, rfl, rfl, rfl, rfl, rfl, rfl, rfl, rfl, rfl, rfl, rfl, rfl, rfl, trivial⟩))
    · intro b0' b1' b2' b3' b4' b5' b6' b7' b8' b9' b10' b11'
      rintro ⟨⟩ ⟨⟩ ⟨⟩
      rintro _ _ G65 ⟨rfl, rfl, hle64⟩ K hK
      exact EL.step tabOk rfl (EL.nil (EX.sub' (hK _ _ _ ⟨rfl, rfl, hle64⟩) ⟨rfl, rfl, rfl, rfl, rfl, rfl, rfl, rfl, rfl, rfl, rfl, rfl, rfl, rfl, rfl, trivial⟩))
  rintro _ _ G67 ⟨rfl, rfl, hle66⟩
  have h11 := Rep.mono hle66 h11
  have h3 := Rep.mono hle66 h3
  have h6 := Rep.mono hle66 h6
  refine EX.seq (E.cond rfl H (fun hb H => ?_) (fun hb H => ?_))
  · skip
    exact E.seq (E.region (EL.run tabOk 1 rfl (EL.nil (EX.seq (E.ret (EX.retT (EX.retE H tabOk rfl rfl)))))))
  · skip
    refine E.skip (EX.seq (E.seq (E.region (EL.run tabOk 1 rfl (EL.nil (EX.seq (E.seq (E.region (EL.run tabOk 1 rfl (EL.nil (EX.seq (E.seq (E.seq (E.region (EL.run tabOk 3 rfl ?_)))))))))))))))
    obtain ⟨y68, hy69, H⟩ := bind_some H
    refine EL.index hy69 h3 tabOk rfl rfl rfl rfl rfl rfl rfl rfl (fun b70 o71 u72 hu73 hc74 => ?_)
    obtain ⟨v78, rfl, h77⟩ := hu73
    obtain ⟨A75, c76, rfl, h77⟩ := Sl.open h77
    refine EL.run tabOk 1 rfl (EL.load (CellsAt.fld (j := 1) hc74 rfl rfl) tabOk rfl rfl rfl rfl rfl rfl (EL.run tabOk 2 rfl (EL.nil (EX.seq (E.nilRow 7 3 1 rfl (E.nilRow 8 94 4 rfl (E.join (fun env L Γ => ∃ (l79 : (List Int)) (l82 : (List Vec)) (es80 : List Value) (es83 : List Value), env = [(7, some (.row 1)), (8, some (.row 2))] ∧ L = [.box 25 [.v (.int .i64 p0.Segs), .v (.slice A1 p0.Plans.length c2), .v (.slice A4 p0.Hosts.length c5)], .row 3 1 l79.length es80, .row 94 4 l82.length es83] ∧ GLe G67 Γ ∧ Els Γ l79 es80 ∧ Els Γ l82 es83 ∧ tree_root_j1 k l79 l82 = some r) ?_ (fun hj85 => ?_))))))))
    · skip
      rintro _ _ G87 ⟨l79, l82, es80, es83, rfl, rfl, hle86, h81, h84, H⟩
      unfold tree_root_j1 at H
      have h3 := Rep.mono hle86 h3; have h6 := Rep.mono hle86 h6
      refine EX.seq (E.seq (E.region (EL.run tabOk 1 rfl (EL.pubRow (xs := l82) 2 rfl h84 rfl rfl (fun k88 A89 c90 G93 hle91 h92 => ?_)))))
      have h3 := Rep.mono hle91 h3; have h6 := Rep.mono hle91 h6; have h81 := Els.mono h81 hle91
      obtain ⟨x94, hx95, H⟩ := bind_some H
      refine EL.call rfl rfl rfl rfl vec_Best_enters (fun w hw => vec_Best_ok hx95 hw h92) (fun v98 G97 hle96 hv99 => ?_)
      have h3 := Rep.mono hle96 h3; have h6 := Rep.mono hle96 h6; have h81 := Els.mono h81 hle96
      obtain ⟨u100, u101, rfl, h102, h103⟩ := hv99
      obtain rfl : _ = _ := h102
      obtain rfl : _ = _ := h103
      refine EL.run tabOk 5 rfl (EL.nil (EX.seq (E.seq (E.seq (E.region (EL.run tabOk 2 rfl (EL.nil (EX.seq (E.cond rfl H (fun hb H => ?_) (fun hb H => ?_))))))))))
      · skip
        exact E.seq (E.region (EL.run tabOk 1 rfl (EL.nil (EX.seq (E.ret (EX.retT (EX.retE H tabOk rfl rfl)))))))
      · skip
        refine E.skip (EX.seq (E.seq (E.region (EL.run tabOk 2 rfl ?_))))
        obtain ⟨y104, hy105, H⟩ := bind_some H
        obtain ⟨g106, g107, g108, g109⟩ := idx_some hy105; obtain ⟨u110, hj111, hu112⟩ := All2.get h81 g109
        refine EL.indexRow g106 g108 tabOk rfl rfl rfl rfl rfl rfl rfl rfl ?_
        obtain rfl : _ = _ := hu112
        exact EL.loadRow (j := (x94.1 : Int).toNat) (off := 0) (sz := 1) hj111 (part_whole _) tabOk rfl rfl rfl rfl rfl rfl rfl rfl (EL.run tabOk 1 rfl (EL.nil (EX.seq (E.ret (EX.retE H tabOk rfl rfl)))))
    · skip
      refine E.block (E.fewer (E.loop (fun n env L Γ => ∃ (i113 : Int) (l114 : (List Int)) (l117 : (List Vec)) (es115 : List Value) (es118 : List Value), env = [(1, some (.v (.slice A9 p1.length c10))), (2, some (.v (.int .i64 p2))), (3, some (.p 0 0)), (7, some (.row 1)), (8, some (.row 2)), (34, some (.v (.slice A75 y68.Ports.length c76))), (35, some (.v (.int .i64 (y68.Ports.length : Int)))), (36, some (.v (.int .i64 i113)))] ∧ L = [.box 25 [.v (.int .i64 p0.Segs), .v (.slice A1 p0.Plans.length c2), .v (.slice A4 p0.Hosts.length c5)], .row 3 1 l114.length es115, .row 94 4 l117.length es118] ∧ GLe G67 Γ ∧ Els Γ l114 es115 ∧ Els Γ l117 es118 ∧ loopN (fun _ _ _ => none) (tree_root_s5 k p0 p1 p2 y68) n i113 l114 l117 = some r) k ⟨0, [], [], [], [], rfl, rfl, GLe.refl _, All2.nil, All2.nil, H⟩ ?_) ⟨⟨_, rfl, rfl⟩, ⟨_, rfl, rfl⟩, ⟨_, rfl, rfl⟩, ⟨_, rfl, rfl⟩, ⟨_, rfl, rfl⟩, ⟨_, rfl, rfl⟩, ⟨_, rfl, rfl⟩, ⟨_, rfl, rfl⟩, trivial⟩ ⟨.inr rfl, .inr rfl, .inr rfl, trivial⟩ rfl rfl)
      rintro n124 _ _ G122 ⟨i113, l114, l117, es115, es118, rfl, rfl, hle120, h116, h119, H⟩ K hK123
      obtain _ | n124 := n124
      · exact none_ne H
      rw [loopN] at H; unfold tree_root_s5 at H
      have h11 := Rep.mono hle120 h11; have h77 := Rep.mono hle120 h77; have h3 := Rep.mono hle120 h3; have h6 := Rep.mono hle120 h6
      refine E.seq (E.region (EL.run tabOk 1 rfl (EL.nil (EX.seq (E.seq (E.cond rfl H (fun hb H => ?_) (fun hb H => ?_)))))))
      · skip
        refine E.skip (EX.seq (E.seq (E.join (fun env L Γ => ∃ (l125 : (List Int)) (l128 : (List Vec)) (es126 : List Value) (es129 : List Value), env = [(1, some (.v (.slice A9 p1.length c10))), (2, some (.v (.int .i64 p2))), (3, some (.p 0 0)), (7, some (.row 1)), (8, some (.row 2)), (34, some (.v (.slice A75 y68.Ports.length c76))), (35, some (.v (.int .i64 (y68.Ports.length : Int)))), (36, some (.v (.int .i64 i113)))] ∧ L = [.box 25 [.v (.int .i64 p0.Segs), .v (.slice A1 p0.Plans.length c2), .v (.slice A4 p0.Hosts.length c5)], .row 3 1 l125.length es126, .row 94 4 l128.length es129] ∧ GLe G122 Γ ∧ Els Γ l125 es126 ∧ Els Γ l128 es129 ∧ tree_root_j2 k i113 (loopN (fun _ _ _ => none) (tree_root_s5 k p0 p1 p2 y68) n124) l125 l128 = some r) ?_ (fun hj131 => ?_))))
        · skip
          rintro _ _ G133 ⟨l125, l128, es126, es129, rfl, rfl, hle132, h127, h130, H⟩
          unfold tree_root_j2 at H
          have h11 := Rep.mono hle132 h11; have h77 := Rep.mono hle132 h77; have h3 := Rep.mono hle132 h3; have h6 := Rep.mono hle132 h6
          exact EX.seq (E.region (EL.run tabOk 2 rfl (EL.nil (EX.fewer (hK123 n124 _ _ _ (Nat.lt_succ_self _) ⟨wr (i113 + 1), l125, l128, es126, es129, rfl, rfl, (GLe.trans hle120 hle132), h127, h130, H⟩) ⟨⟨_, rfl, rfl⟩, ⟨_, rfl, rfl⟩, ⟨_, rfl, rfl⟩, ⟨_, rfl, rfl⟩, ⟨_, rfl, rfl⟩, ⟨_, rfl, rfl⟩, ⟨_, rfl, rfl⟩, ⟨_, rfl, rfl⟩, trivial⟩ ⟨.inr rfl, .inr rfl, .inr rfl, trivial⟩ rfl rfl))))
        · skip
          refine E.block (E.seq (E.region (EL.run tabOk 1 rfl ?_)))
          obtain ⟨y134, hy135, H⟩ := bind_some H
          refine EL.index hy135 h77 tabOk rfl rfl rfl rfl rfl rfl rfl rfl (fun b136 o137 u138 hu139 hc140 => ?_)
          obtain rfl : _ = _ := hu139
          refine EL.load hc140 tabOk rfl rfl rfl rfl rfl rfl (EL.run tabOk 3 rfl (EL.nil (EX.seq (E.seq (E.region (EL.run tabOk 4 rfl ?_))))))
          obtain ⟨x141, hx142, H⟩ := bind_some H
          refine EL.call rfl rfl rfl rfl tree_own_enters (fun w hw => tree_own_ok hx142 hw ⟨_, _, rfl, h3, h6⟩ h11) (fun v145 G144 hle143 hv146 => ?_)
          have h11 := Rep.mono hle143 h11; have h77 := Rep.mono hle143 h77; have h3 := Rep.mono hle143 h3; have h6 := Rep.mono hle143 h6; have h116 := Els.mono h116 hle143; have h119 := Els.mono h119 hle143
          obtain ⟨u147, u148, rfl, h149, h150⟩ := hv146
          obtain rfl : _ = _ := h149
          obtain rfl : _ = _ := h150
          refine EL.run tabOk 6 rfl (EL.nil (EX.seq (E.seq (E.seq (E.join (fun env L Γ => ∃ (b151 : Bool), env = [(1, some (.v (.slice A9 p1.length c10))), (2, some (.v (.int .i64 p2))), (3, some (.p 0 0)), (7, some (.row 1)), (8, some (.row 2)), (9, some (.v (.int .i64 i113))), (10, some (.p 3 0)), (11, some (.p 4 0)), (34, some (.v (.slice A75 y68.Ports.length c76))), (35, some (.v (.int .i64 (y68.Ports.length : Int)))), (36, some (.v (.int .i64 i113))), (61, some (.v (.bool b151)))] ∧ L = [.box 25 [.v (.int .i64 p0.Segs), .v (.slice A1 p0.Plans.length c2), .v (.slice A4 p0.Hosts.length c5)], .row 3 1 l114.length es115, .row 94 4 l117.length es118, .box 35 [.v (.int .i64 y134.Seg), .v (.int .i64 y134.Cost), .v (.bool y134.Up)], .box 41 [.v (.int .i64 x141.1.x0), .v (.int .i64 x141.1.x1)]] ∧ GLe G144 Γ ∧ tree_root_j4 k p0 p1 p2 i113 l114 l117 (loopN (fun _ _ _ => none) (tree_root_s5 k p0 p1 p2 y68) n124) y134 x141 b151 = some r) ?_ (fun hj152 => ?_))))))
          · skip
            rintro _ _ G154 ⟨b151, rfl, rfl, hle153, H⟩
            unfold tree_root_j4 at H
            have h11 := Rep.mono hle153 h11; have h77 := Rep.mono hle153 h77; have h3 := Rep.mono hle153 h3; have h6 := Rep.mono hle153 h6; have h116 := Els.mono h116 hle153; have h119 := Els.mono h119 hle153
            refine EX.seq (E.cond rfl H (fun hb H => ?_) (fun hb H => ?_))
            · skip
              exact E.exit (EX.out (EX.hit (EX.fewer (hj131 _ _ _ ⟨l114, l117, es115, es118, rfl, rfl, (GLe.trans hle143 hle153), h116, h119, H⟩) ⟨⟨_, rfl, rfl⟩, ⟨_, rfl, rfl⟩, ⟨_, rfl, rfl⟩, ⟨_, rfl, rfl⟩, ⟨_, rfl, rfl⟩, ⟨_, rfl, rfl⟩, ⟨_, rfl, rfl⟩, ⟨_, rfl, rfl⟩, trivial⟩ ⟨.inr rfl, .inr rfl, .inr rfl, trivial⟩ rfl rfl)))
            · skip
              refine E.skip (EX.seq (E.seq ?_))
              obtain ⟨x155, hx156, H⟩ := bind_some H
              obtain ⟨x157, hx158, H⟩ := bind_some H
              refine E.fewer (env' := [(1, some (.v (.slice A9 p1.length c10))), (2, some (.v (.int .i64 p2))), (3, some (.p 0 0)), (7, some (.row 1)), (8, some (.row 2)), (9, some (.v (.int .i64 i113))), (10, some (.p 3 0)), (11, some (.p 4 0)), (34, some (.v (.slice A75 y68.Ports.length c76))), (35, some (.v (.int .i64 (y68.Ports.length : Int)))), (36, some (.v (.int .i64 i113)))]) (L' := [.box 25 [.v (.int .i64 p0.Segs), .v (.slice A1 p0.Plans.length c2), .v (.slice A4 p0.Hosts.length c5)], .row 3 1 l114.length es115, .row 94 4 l117.length es118, .box 35 [.v (.int .i64 y134.Seg), .v (.int .i64 y134.Cost), .v (.bool y134.Up)], .box 41 [.v (.int .i64 x141.1.x0), .v (.int .i64 x141.1.x1)]]) (E.sub' (E.hole ((E.draw mixed (fun (bs : List Bool) (env : Env) (L : List Ent) (Γ : Ghost) => match bs with | [b0', b1', b2', b3', b4', b5', b6', b7', b8', b9', b10', b11', b12'] =>  env = [(63, bif b0' then some (.v (.agg #[.int .i64 p0.Segs, .slice A1 p0.Plans.length c2, .slice A4 p0.Hosts.length c5])) else none), (64, bif b1' then some (.v (.slice A9 p1.length c10)) else none), (65, bif b2' then some (.v (.agg #[.int .i64 x141.1.x0, .int .i64 x141.1.x1])) else none), (66, bif b3' then some (.v (.agg #[.int .i64 x155.Root, .int .i64 x155.Cost, .int .i64 x155.Bridge, .int .i64 x155.Port])) else none), (67, bif b4' then some (.p 3 1) else none), (68, bif b5' then some (.v (.int .i64 y134.Cost)) else none), (69, bif b6' then some (.v (.tuple #[.agg #[.int .i64 x157.1.Root, .int .i64 x157.1.Cost, .int .i64 x157.1.Bridge, .int .i64 x157.1.Port], .int .i64 x157.2])) else none), (62, bif b7' then some (.v (.tuple #[.agg #[.int .i64 x157.1.Root, .int .i64 x157.1.Cost, .int .i64 x157.1.Bridge, .int .i64 x157.1.Port], .int .i64 x157.2])) else none), (70, bif b8' then some (.v (.agg #[.int .i64 x157.1.Root, .int .i64 x157.1.Cost, .int .i64 x157.1.Bridge, .int .i64 x157.1.Port])) else none), (71, bif b9' then some (.v (.int .i64 x157.2)) else none), (13, bif b10' then some (.p 5 0) else none), (14, bif b12' then some (.v (.int .i64 x157.2)) else none), (1, some (.v (.slice A9 p1.length c10))), (2, some (.v (.int .i64 p2))), (3, some (.p 0 0)), (7, some (.row 1)), (8, some (.row 2)), (9, some (.v (.int .i64 i113))), (10, some (.p 3 0)), (11, some (.p 4 0)), (34, some (.v (.slice A75 y68.Ports.length c76))), (35, some (.v (.int .i64 (y68.Ports.length : Int)))), (36, some (.v (.int .i64 i113)))] ∧ L = [.box 25 [.v (.int .i64 p0.Segs), .v (.slice A1 p0.Plans.length c2), .v (.slice A4 p0.Hosts.length c5)], .row 3 1 l114.length es115, .row 94 4 l117.length es118, .box 35 [.v (.int .i64 y134.Seg), .v (.int .i64 y134.Cost), .v (.bool y134.Up)], .box 41 [.v (.int .i64 x141.1.x0), .v (.int .i64 x141.1.x1)], (bif b11' then .box 94 [.v (.int .i64 x157.1.Root), .v (.int .i64 x157.1.Cost), .v (.int .i64 x157.1.Bridge), .v (.int .i64 x157.1.Port)] else bif b10' then .box 94 [.v (.int .i64 0), .v (.int .i64 0), .v (.int .i64 0), .v (.int .i64 0)] else .gone)] ∧ GLe G154 Γ | _ => False) ⟨rfl, rfl, GLe.refl _⟩ rfl ?_ ?_))) ⟨rfl, rfl, rfl, rfl, rfl, rfl, rfl, rfl, rfl, rfl, rfl, rfl, rfl, rfl, rfl, rfl, rfl, rfl, rfl, rfl, rfl, rfl, rfl, trivial⟩) ⟨⟨_, rfl, rfl⟩, ⟨_, rfl, rfl⟩, ⟨_, rfl, rfl⟩, ⟨_, rfl, rfl⟩, ⟨_, rfl, rfl⟩, ⟨_, rfl, rfl⟩, ⟨_, rfl, rfl⟩, ⟨_, rfl, rfl⟩, ⟨_, rfl, rfl⟩, ⟨_, rfl, rfl⟩, ⟨_, rfl, rfl⟩, trivial⟩ ⟨.inr rfl, .inr rfl, .inr rfl, .inr rfl, .inr rfl, trivial⟩ rfl rfl
              · refine ⟨?_, ?_, ?_, ?_, ?_, ?_, ?_, ?_, ?_, ?_, ?_, ?_, ?_, trivial⟩
                · intro b0' b1' b2' b3' b4' b5' b6' b7' b8' b9' b10' b11' b12'
                  rintro ⟨⟩ ⟨⟩ ⟨⟩ ⟨⟩
                  rintro _ _ G160 ⟨rfl, rfl, hle159⟩ K hK
                  have h3 := Rep.mono hle159 h3
                  have h6 := Rep.mono hle159 h6
                  exact EL.step tabOk rfl (EL.nil (EX.sub' (hK _ _ _ ⟨rfl, rfl, hle159⟩) ⟨rfl, rfl, rfl, rfl, rfl, rfl, rfl, rfl, rfl, rfl, rfl, rfl, rfl, rfl, rfl, rfl, rfl, rfl, rfl, rfl, rfl, rfl, rfl, trivial⟩))
                · intro b0' b1' b2' b3' b4' b5' b6' b7' b8' b9' b10' b11' b12'
                  rintro ⟨⟩ ⟨⟩ ⟨⟩ ⟨⟩
                  rintro _ _ G162 ⟨rfl, rfl, hle161⟩ K hK
                  have h11 := Rep.mono hle161 h11
                  exact EL.step tabOk rfl (EL.nil (EX.sub' (hK _ _ _ ⟨rfl, rfl, hle161⟩) ⟨rfl, rfl, rfl, rfl, rfl, rfl, rfl, rfl, rfl, rfl, rfl, rfl, rfl, rfl, rfl, rfl, rfl, rfl, rfl, rfl, rfl, rfl, rfl, trivial⟩))
                · intro b0' b1' b2' b3' b4' b5' b6' b7' b8' b9' b10' b11' b12'
                  rintro ⟨⟩ ⟨⟩ ⟨⟩ ⟨⟩
                  rintro _ _ G164 ⟨rfl, rfl, hle163⟩ K hK
                  exact EL.step tabOk rfl (EL.nil (EX.sub' (hK _ _ _ ⟨rfl, rfl, hle163⟩) ⟨rfl, rfl, rfl, rfl, rfl, rfl, rfl, rfl, rfl, rfl, rfl, rfl, rfl, rfl, rfl, rfl, rfl, rfl, rfl, rfl, rfl, rfl, rfl, trivial⟩))
                · intro b0' b1' b2' b3' b4' b5' b6' b7' b8' b9' b10' b11' b12'
                  rintro ⟨⟩ ⟨⟩ ⟨⟩ ⟨⟩ ⟨⟩ ⟨⟩ ⟨⟩
                  rintro _ _ G166 ⟨rfl, rfl, hle165⟩ K hK
                  have h11 := Rep.mono hle165 h11
                  have h3 := Rep.mono hle165 h3
                  have h6 := Rep.mono hle165 h6
                  refine EL.call rfl rfl rfl rfl tree_told_enters (fun w hw => tree_told_ok hx156 hw ⟨_, _, rfl, h3, h6⟩ h11) (fun v167 G170 hle169 hv168 => ?_)
                  obtain rfl : _ = _ := hv168
                  exact EL.nil (EX.sub' (hK _ _ _ ⟨rfl, rfl, (GLe.trans hle165 hle169)⟩) ⟨rfl, rfl, rfl, rfl, rfl, rfl, rfl, rfl, rfl, rfl, rfl, rfl, rfl, rfl, rfl, rfl, rfl, rfl, rfl, rfl, rfl, rfl, rfl, trivial⟩)
                · intro b0' b1' b2' b3' b4' b5' b6' b7' b8' b9' b10' b11' b12'
                  rintro ⟨⟩ ⟨⟩ ⟨⟩ ⟨⟩
                  rintro _ _ G172 ⟨rfl, rfl, hle171⟩ K hK
                  exact EL.step tabOk rfl (EL.nil (EX.sub' (hK _ _ _ ⟨rfl, rfl, hle171⟩) ⟨rfl, rfl, rfl, rfl, rfl, rfl, rfl, rfl, rfl, rfl, rfl, rfl, rfl, rfl, rfl, rfl, rfl, rfl, rfl, rfl, rfl, rfl, rfl, trivial⟩))
                · intro b0' b1' b2' b3' b4' b5' b6' b7' b8' b9' b10' b11' b12'
                  rintro ⟨⟩ ⟨⟩ ⟨⟩ ⟨⟩ ⟨⟩
                  rintro _ _ G174 ⟨rfl, rfl, hle173⟩ K hK
                  exact EL.step tabOk rfl (EL.nil (EX.sub' (hK _ _ _ ⟨rfl, rfl, hle173⟩) ⟨rfl, rfl, rfl, rfl, rfl, rfl, rfl, rfl, rfl, rfl, rfl, rfl, rfl, rfl, rfl, rfl, rfl, rfl, rfl, rfl, rfl, rfl, rfl, trivial⟩))
                · intro b0' b1' b2' b3' b4' b5' b6' b7' b8' b9' b10' b11' b12'
                  rintro ⟨⟩ ⟨⟩ ⟨⟩ ⟨⟩ ⟨⟩ ⟨⟩ ⟨⟩
                  rintro _ _ G176 ⟨rfl, rfl, hle175⟩ K hK
                  refine EL.call rfl rfl rfl rfl vec_Far_enters (fun w hw => vec_Far_ok hx158 hw ) (fun v177 G180 hle179 hv178 => ?_)
                  obtain ⟨u181, u182, rfl, h183, h184⟩ := hv178
                  obtain rfl : _ = _ := h183
                  obtain rfl : _ = _ := h184
                  exact EL.nil (EX.sub' (hK _ _ _ ⟨rfl, rfl, (GLe.trans hle175 hle179)⟩) ⟨rfl, rfl, rfl, rfl, rfl, rfl, rfl, rfl, rfl, rfl, rfl, rfl, rfl, rfl, rfl, rfl, rfl, rfl, rfl, rfl, rfl, rfl, rfl, trivial⟩)
                · intro b0' b1' b2' b3' b4' b5' b6' b7' b8' b9' b10' b11' b12'
                  rintro ⟨⟩ ⟨⟩ ⟨⟩ ⟨⟩ ⟨⟩ ⟨⟩
                  rintro _ _ G186 ⟨rfl, rfl, hle185⟩ K hK
                  exact EL.step tabOk rfl (EL.nil (EX.sub' (hK _ _ _ ⟨rfl, rfl, hle185⟩) ⟨rfl, rfl, rfl, rfl, rfl, rfl, rfl, rfl, rfl, rfl, rfl, rfl, rfl, rfl, rfl, rfl, rfl, rfl, rfl, rfl, rfl, rfl, rfl, trivial⟩))
                · intro b0' b1' b2' b3' b4' b5' b6' b7' b8' b9' b10' b11' b12'
                  rintro ⟨⟩ ⟨⟩ ⟨⟩ ⟨⟩
                  rintro _ _ G188 ⟨rfl, rfl, hle187⟩ K hK
                  exact EL.step tabOk rfl (EL.nil (EX.sub' (hK _ _ _ ⟨rfl, rfl, hle187⟩) ⟨rfl, rfl, rfl, rfl, rfl, rfl, rfl, rfl, rfl, rfl, rfl, rfl, rfl, rfl, rfl, rfl, rfl, rfl, rfl, rfl, rfl, rfl, rfl, trivial⟩))
                · intro b0' b1' b2' b3' b4' b5' b6' b7' b8' b9' b10' b11' b12'
                  rintro ⟨⟩ ⟨⟩ ⟨⟩
                  rintro _ _ G190 ⟨rfl, rfl, hle189⟩ K hK
                  exact EL.step tabOk rfl (EL.nil (EX.sub' (hK _ _ _ ⟨rfl, rfl, hle189⟩) ⟨rfl, rfl, rfl, rfl, rfl, rfl, rfl, rfl, rfl, rfl, rfl, rfl, rfl, rfl, rfl, rfl, rfl, rfl, rfl, rfl, rfl, rfl, rfl, trivial⟩))
                · intro b0' b1' b2' b3' b4' b5' b6' b7' b8' b9' b10' b11' b12'
                  rintro ⟨⟩ ⟨⟩ ⟨⟩
                  rintro _ _ G192 ⟨rfl, rfl, hle191⟩ K hK
                  refine EL.step tabOk rfl (EL.nil (EX.homeP 5 rfl (by repeat' (first | exact nrE_nil | refine nrE_cons ?_ ?_ | exact nrO_none | exact nrO_some rfl | refine nrO_if ?_ ?_)) (by repeat' (first | exact nrL_nil | refine nrL_cons ?_ ?_ | exact rfl | refine nrN_if ?_ ?_)) rfl ?_))
                  exact EX.sub' (hK _ _ _ ⟨rfl, rfl, hle191⟩) ⟨rfl, rfl, rfl, rfl, rfl, rfl, rfl, rfl, rfl, rfl, rfl, rfl, rfl, rfl, rfl, rfl, rfl, rfl, rfl, rfl, rfl, rfl, rfl, trivial⟩
                · intro b0' b1' b2' b3' b4' b5' b6' b7' b8' b9' b10' b11' b12'
                  rintro ⟨⟩ ⟨⟩ ⟨⟩ ⟨⟩ ⟨⟩ ⟨⟩ ⟨⟩ ⟨⟩ ⟨⟩ ⟨⟩ ⟨⟩ ⟨⟩ ⟨⟩ ⟨⟩ ⟨⟩
                  rintro _ _ G194 ⟨rfl, rfl, hle193⟩ K hK
                  exact EL.step tabOk rfl (EL.nil (EX.sub' (hK _ _ _ ⟨rfl, rfl, hle193⟩) ⟨rfl, rfl, rfl, rfl, rfl, rfl, rfl, rfl, rfl, rfl, rfl, rfl, rfl, rfl, rfl, rfl, rfl, rfl, rfl, rfl, rfl, rfl, rfl, trivial⟩))
                · intro b0' b1' b2' b3' b4' b5' b6' b7' b8' b9' b10' b11' b12'
                  rintro ⟨⟩ ⟨⟩ ⟨⟩ ⟨⟩ ⟨⟩ ⟨⟩ ⟨⟩ ⟨⟩ ⟨⟩ ⟨⟩ ⟨⟩ ⟨⟩ ⟨⟩ ⟨⟩ ⟨⟩
                  rintro _ _ G196 ⟨rfl, rfl, hle195⟩ K hK
                  exact EL.step tabOk rfl (EL.nil (EX.sub' (hK _ _ _ ⟨rfl, rfl, hle195⟩) ⟨rfl, rfl, rfl, rfl, rfl, rfl, rfl, rfl, rfl, rfl, rfl, rfl, rfl, rfl, rfl, rfl, rfl, rfl, rfl, rfl, rfl, rfl, rfl, trivial⟩))
              rintro _ _ G198 ⟨rfl, rfl, hle197⟩
              have h11 := Rep.mono hle197 h11
              have h77 := Rep.mono hle197 h77
              have h3 := Rep.mono hle197 h3
              have h6 := Rep.mono hle197 h6
              have h116 := Els.mono h116 hle197
              have h119 := Els.mono h119 hle197
              refine EX.seq (E.seq ?_)
              obtain ⟨y199, hy200, H⟩ := bind_some H; obtain ⟨g208, g209, g210, g211⟩ := idx_some hy200; obtain ⟨b201, o202, u203, hA204, hn207, hu205, hc206⟩ := idx_at hy200 h11
              obtain rfl : _ = _ := hu205
              refine E.fewer (env' := [(1, some (.v (.slice A9 p1.length c10))), (2, some (.v (.int .i64 p2))), (3, some (.p 0 0)), (7, some (.row 1)), (8, some (.row 2)), (9, some (.v (.int .i64 i113))), (13, some (.p 5 0)), (34, some (.v (.slice A75 y68.Ports.length c76))), (35, some (.v (.int .i64 (y68.Ports.length : Int)))), (36, some (.v (.int .i64 i113)))]) (L' := [.box 25 [.v (.int .i64 p0.Segs), .v (.slice A1 p0.Plans.length c2), .v (.slice A4 p0.Hosts.length c5)], .row 3 1 l114.length es115, .row 94 4 l117.length es118, .box 35 [.v (.int .i64 y134.Seg), .v (.int .i64 y134.Cost), .v (.bool y134.Up)], .box 41 [.v (.int .i64 x141.1.x0), .v (.int .i64 x141.1.x1)], .box 94 [.v (.int .i64 x157.1.Root), .v (.int .i64 x157.1.Cost), .v (.int .i64 x157.1.Bridge), .v (.int .i64 x157.1.Port)]]) (E.sub' ((E.draw mixed (fun (bs : List Bool) (env : Env) (L : List Ent) (Γ : Ghost) => match bs with | [b0', b1', b2', b3', b4', b5', b6', b7', b8', b9'] =>  env = [(72, bif b0' then some (.p 5 0) else none), (73, bif b1' then some (.v (.int .i64 x157.1.Root)) else none), (74, bif b2' then some (.p 5 1) else none), (75, bif b3' then some (.v (.int .i64 x157.1.Cost)) else none), (76, bif b4' then some (.v (.agg #[.int .i64 x157.1.Root, .int .i64 x157.1.Cost])) else none), (77, bif b5' then some (.v (.slice A9 p1.length c10)) else none), (78, bif b6' then some (.v (.int .i64 p2)) else none), (79, bif b7' then some (.v (.pointer (some ⟨b201, o202 + (p2 : Int).toNat * 2, none⟩))) else none), (80, bif b8' then some (.v (.agg #[.int .i64 y199.x0, .int .i64 y199.x1])) else none), (81, bif b9' then some (.v (.bool (xorB false ((x157.1.Root == y199.x0) && ((x157.1.Cost == y199.x1) && true))))) else none), (1, some (.v (.slice A9 p1.length c10))), (2, some (.v (.int .i64 p2))), (3, some (.p 0 0)), (7, some (.row 1)), (8, some (.row 2)), (9, some (.v (.int .i64 i113))), (13, some (.p 5 0)), (34, some (.v (.slice A75 y68.Ports.length c76))), (35, some (.v (.int .i64 (y68.Ports.length : Int)))), (36, some (.v (.int .i64 i113)))] ∧ L = [.box 25 [.v (.int .i64 p0.Segs), .v (.slice A1 p0.Plans.length c2), .v (.slice A4 p0.Hosts.length c5)], .row 3 1 l114.length es115, .row 94 4 l117.length es118, .box 35 [.v (.int .i64 y134.Seg), .v (.int .i64 y134.Cost), .v (.bool y134.Up)], .box 41 [.v (.int .i64 x141.1.x0), .v (.int .i64 x141.1.x1)], .box 94 [.v (.int .i64 x157.1.Root), .v (.int .i64 x157.1.Cost), .v (.int .i64 x157.1.Bridge), .v (.int .i64 x157.1.Port)]] ∧ GLe G198 Γ | _ => False) ⟨rfl, rfl, GLe.refl _⟩ rfl ?_ ?_)) ⟨rfl, rfl, rfl, rfl, rfl, rfl, rfl, rfl, rfl, rfl, rfl, rfl, rfl, rfl, rfl, rfl, rfl, rfl, rfl, rfl, trivial⟩) ⟨⟨_, rfl, rfl⟩, ⟨_, rfl, rfl⟩, ⟨_, rfl, rfl⟩, ⟨_, rfl, rfl⟩, ⟨_, rfl, rfl⟩, ⟨_, rfl, rfl⟩, ⟨_, rfl, rfl⟩, ⟨_, rfl, rfl⟩, ⟨_, rfl, rfl⟩, ⟨_, rfl, rfl⟩, trivial⟩ ⟨.inr rfl, .inr rfl, .inr rfl, .inr rfl, .inr rfl, .inr rfl, trivial⟩ rfl rfl
              · refine ⟨?_, ?_, ?_, ?_, ?_, ?_, ?_, ?_, ?_, ?_, trivial⟩
                · intro b0' b1' b2' b3' b4' b5' b6' b7' b8' b9'
                  rintro ⟨⟩ ⟨⟩
                  rintro _ _ G213 ⟨rfl, rfl, hle212⟩ K hK
                  exact EL.step tabOk rfl (EL.nil (EX.sub' (hK _ _ _ ⟨rfl, rfl, hle212⟩) ⟨rfl, rfl, rfl, rfl, rfl, rfl, rfl, rfl, rfl, rfl, rfl, rfl, rfl, rfl, rfl, rfl, rfl, rfl, rfl, rfl, trivial⟩))
                · intro b0' b1' b2' b3' b4' b5' b6' b7' b8' b9'
                  rintro ⟨⟩ ⟨⟩ ⟨⟩
                  rintro _ _ G215 ⟨rfl, rfl, hle214⟩ K hK
                  exact EL.step tabOk rfl (EL.nil (EX.sub' (hK _ _ _ ⟨rfl, rfl, hle214⟩) ⟨rfl, rfl, rfl, rfl, rfl, rfl, rfl, rfl, rfl, rfl, rfl, rfl, rfl, rfl, rfl, rfl, rfl, rfl, rfl, rfl, trivial⟩))
                · intro b0' b1' b2' b3' b4' b5' b6' b7' b8' b9'
                  rintro ⟨⟩ ⟨⟩
                  rintro _ _ G217 ⟨rfl, rfl, hle216⟩ K hK
                  exact EL.step tabOk rfl (EL.nil (EX.sub' (hK _ _ _ ⟨rfl, rfl, hle216⟩) ⟨rfl, rfl, rfl, rfl, rfl, rfl, rfl, rfl, rfl, rfl, rfl, rfl, rfl, rfl, rfl, rfl, rfl, rfl, rfl, rfl, trivial⟩))
                · intro b0' b1' b2' b3' b4' b5' b6' b7' b8' b9'
                  rintro ⟨⟩ ⟨⟩ ⟨⟩
                  rintro _ _ G219 ⟨rfl, rfl, hle218⟩ K hK
                  exact EL.step tabOk rfl (EL.nil (EX.sub' (hK _ _ _ ⟨rfl, rfl, hle218⟩) ⟨rfl, rfl, rfl, rfl, rfl, rfl, rfl, rfl, rfl, rfl, rfl, rfl, rfl, rfl, rfl, rfl, rfl, rfl, rfl, rfl, trivial⟩))
                · intro b0' b1' b2' b3' b4' b5' b6' b7' b8' b9'
                  rintro ⟨⟩ ⟨⟩ ⟨⟩ ⟨⟩
                  rintro _ _ G221 ⟨rfl, rfl, hle220⟩ K hK
                  exact EL.step tabOk rfl (EL.nil (EX.sub' (hK _ _ _ ⟨rfl, rfl, hle220⟩) ⟨rfl, rfl, rfl, rfl, rfl, rfl, rfl, rfl, rfl, rfl, rfl, rfl, rfl, rfl, rfl, rfl, rfl, rfl, rfl, rfl, trivial⟩))
                · intro b0' b1' b2' b3' b4' b5' b6' b7' b8' b9'
                  rintro ⟨⟩ ⟨⟩
                  rintro _ _ G223 ⟨rfl, rfl, hle222⟩ K hK
                  have h11 := Rep.mono hle222 h11
                  exact EL.step tabOk rfl (EL.nil (EX.sub' (hK _ _ _ ⟨rfl, rfl, hle222⟩) ⟨rfl, rfl, rfl, rfl, rfl, rfl, rfl, rfl, rfl, rfl, rfl, rfl, rfl, rfl, rfl, rfl, rfl, rfl, rfl, rfl, trivial⟩))
                · intro b0' b1' b2' b3' b4' b5' b6' b7' b8' b9'
                  rintro ⟨⟩ ⟨⟩
                  rintro _ _ G225 ⟨rfl, rfl, hle224⟩ K hK
                  exact EL.step tabOk rfl (EL.nil (EX.sub' (hK _ _ _ ⟨rfl, rfl, hle224⟩) ⟨rfl, rfl, rfl, rfl, rfl, rfl, rfl, rfl, rfl, rfl, rfl, rfl, rfl, rfl, rfl, rfl, rfl, rfl, rfl, rfl, trivial⟩))
                · intro b0' b1' b2' b3' b4' b5' b6' b7' b8' b9'
                  rintro ⟨⟩ ⟨⟩ ⟨⟩ ⟨⟩
                  rintro _ _ G227 ⟨rfl, rfl, hle226⟩ K hK
                  have h11 := Rep.mono hle226 h11
                  exact EL.indexAt (b := b201) (o' := o202) (n := p1.length) (c := c10) g208 g210 tabOk rfl rfl rfl (by rw [← hA204]; rfl) rfl rfl rfl (EL.nil (EX.sub' (hK _ _ _ ⟨rfl, rfl, hle226⟩) ⟨rfl, rfl, rfl, rfl, rfl, rfl, rfl, rfl, rfl, rfl, rfl, rfl, rfl, rfl, rfl, rfl, rfl, rfl, rfl, rfl, trivial⟩))
                · intro b0' b1' b2' b3' b4' b5' b6' b7' b8' b9'
                  rintro ⟨⟩ ⟨⟩ ⟨⟩
                  rintro _ _ G229 ⟨rfl, rfl, hle228⟩ K hK
                  have hc206 := CellsAt.mono hle228 hc206
                  exact EL.load hc206 tabOk rfl rfl rfl rfl rfl rfl (EL.nil (EX.sub' (hK _ _ _ ⟨rfl, rfl, hle228⟩) ⟨rfl, rfl, rfl, rfl, rfl, rfl, rfl, rfl, rfl, rfl, rfl, rfl, rfl, rfl, rfl, rfl, rfl, rfl, rfl, rfl, trivial⟩))
                · intro b0' b1' b2' b3' b4' b5' b6' b7' b8' b9'
                  rintro ⟨⟩ ⟨⟩ ⟨⟩
                  rintro _ _ G231 ⟨rfl, rfl, hle230⟩ K hK
                  exact EL.eqA tabOk gt61 rfl rfl rfl rfl rfl rfl rfl rfl false rfl (EL.nil (EX.sub' (hK _ _ _ ⟨rfl, rfl, hle230⟩) ⟨rfl, rfl, rfl, rfl, rfl, rfl, rfl, rfl, rfl, rfl, rfl, rfl, rfl, rfl, rfl, rfl, rfl, rfl, rfl, rfl, trivial⟩))
              rintro _ _ G233 ⟨rfl, rfl, hle232⟩
              have h11 := Rep.mono hle232 h11
              have h77 := Rep.mono hle232 h77
              have h3 := Rep.mono hle232 h3
              have h6 := Rep.mono hle232 h6
              have h116 := Els.mono h116 hle232
              have h119 := Els.mono h119 hle232
              refine EX.seq (E.join (fun env L Γ => ∃ (l234 : (List Int)) (l237 : (List Vec)) (es235 : List Value) (es238 : List Value), env = [(1, some (.v (.slice A9 p1.length c10))), (2, some (.v (.int .i64 p2))), (3, some (.p 0 0)), (7, some (.row 1)), (8, some (.row 2)), (34, some (.v (.slice A75 y68.Ports.length c76))), (35, some (.v (.int .i64 (y68.Ports.length : Int)))), (36, some (.v (.int .i64 i113)))] ∧ L = [.box 25 [.v (.int .i64 p0.Segs), .v (.slice A1 p0.Plans.length c2), .v (.slice A4 p0.Hosts.length c5)], .row 3 1 l234.length es235, .row 94 4 l237.length es238, .box 35 [.v (.int .i64 y134.Seg), .v (.int .i64 y134.Cost), .v (.bool y134.Up)], .box 41 [.v (.int .i64 x141.1.x0), .v (.int .i64 x141.1.x1)], .box 94 [.v (.int .i64 x157.1.Root), .v (.int .i64 x157.1.Cost), .v (.int .i64 x157.1.Bridge), .v (.int .i64 x157.1.Port)]] ∧ GLe G233 Γ ∧ Els Γ l234 es235 ∧ Els Γ l237 es238 ∧ tree_root_j3 k i113 (loopN (fun _ _ _ => none) (tree_root_s5 k p0 p1 p2 y68) n124) l234 l237 = some r) ?_ (fun hj240 => ?_))
              · skip
                rintro _ _ G242 ⟨l234, l237, es235, es238, rfl, rfl, hle241, h236, h239, H⟩
                unfold tree_root_j3 at H
                have h11 := Rep.mono hle241 h11; have h77 := Rep.mono hle241 h77; have h3 := Rep.mono hle241 h3; have h6 := Rep.mono hle241 h6
                exact EX.block (EX.fewer (hj131 _ _ _ ⟨l234, l237, es235, es238, rfl, rfl, (GLe.trans (GLe.trans (GLe.trans (GLe.trans hle143 hle153) hle197) hle232) hle241), h236, h239, H⟩) ⟨⟨_, rfl, rfl⟩, ⟨_, rfl, rfl⟩, ⟨_, rfl, rfl⟩, ⟨_, rfl, rfl⟩, ⟨_, rfl, rfl⟩, ⟨_, rfl, rfl⟩, ⟨_, rfl, rfl⟩, ⟨_, rfl, rfl⟩, trivial⟩ ⟨.inr rfl, .inr rfl, .inr rfl, trivial⟩ rfl rfl)
              · skip
                refine E.cond rfl H (fun hb H => ?_) (fun hb H => ?_)
                · skip
                  obtain ⟨l243, hp244, H⟩ := bind_some H
                  have h245 := push_els hp244 h116 (show R G233 i113 (.int .i64 i113) from rfl)
                  obtain ⟨l247, hp248, H⟩ := bind_some H
                  have h249 := push_els hp248 h119 (show R G233 x157.1 (.agg #[.int .i64 x157.1.Root, .int .i64 x157.1.Cost, .int .i64 x157.1.Bridge, .int .i64 x157.1.Port]) from rfl)
                  refine E.fewer (env' := [(1, some (.v (.slice A9 p1.length c10))), (2, some (.v (.int .i64 p2))), (3, some (.p 0 0)), (7, some (.row 1)), (8, some (.row 2)), (9, some (.v (.int .i64 i113))), (13, some (.p 5 0)), (34, some (.v (.slice A75 y68.Ports.length c76))), (35, some (.v (.int .i64 (y68.Ports.length : Int)))), (36, some (.v (.int .i64 i113)))]) (L' := [.box 25 [.v (.int .i64 p0.Segs), .v (.slice A1 p0.Plans.length c2), .v (.slice A4 p0.Hosts.length c5)], .row 3 1 l114.length es115, .row 94 4 l117.length es118, .box 35 [.v (.int .i64 y134.Seg), .v (.int .i64 y134.Cost), .v (.bool y134.Up)], .box 41 [.v (.int .i64 x141.1.x0), .v (.int .i64 x141.1.x1)], .box 94 [.v (.int .i64 x157.1.Root), .v (.int .i64 x157.1.Cost), .v (.int .i64 x157.1.Bridge), .v (.int .i64 x157.1.Port)]]) (E.sub' (E.hole (E.hole ((E.draw mixed (fun (bs : List Bool) (env : Env) (L : List Ent) (Γ : Ghost) => match bs with | [b0', b1', b2', b3', b4', b5', b6', b7', b8', b9'] => ∃ (vl246 : Value) (vl250 : Value), env = [(82, bif b0' then (bif b3' then none else some (.row 1)) else none), (83, bif b1' then some (.v (.int .i64 i113)) else none), (84, bif b2' then (bif b3' then none else some (.row 6)) else none), (85, bif b3' then some (.row 1) else none), (86, bif b4' then (bif b7' then none else some (.row 2)) else none), (87, bif b5' then some (.v (.agg #[.int .i64 x157.1.Root, .int .i64 x157.1.Cost, .int .i64 x157.1.Bridge, .int .i64 x157.1.Port])) else none), (88, bif b6' then (bif b7' then none else some (.row 7)) else none), (89, bif b7' then some (.row 2) else none), (7, bif b8' then some (.row 1) else (bif b3' then none else some (.row 1))), (8, bif b9' then some (.row 2) else (bif b7' then none else some (.row 2))), (1, some (.v (.slice A9 p1.length c10))), (2, some (.v (.int .i64 p2))), (3, some (.p 0 0)), (9, some (.v (.int .i64 i113))), (13, some (.p 5 0)), (34, some (.v (.slice A75 y68.Ports.length c76))), (35, some (.v (.int .i64 (y68.Ports.length : Int)))), (36, some (.v (.int .i64 i113)))] ∧ L = [.box 25 [.v (.int .i64 p0.Segs), .v (.slice A1 p0.Plans.length c2), .v (.slice A4 p0.Hosts.length c5)], (bif b3' then .row 3 1 l243.length (es115 ++ [.int .i64 i113]) else .row 3 1 l114.length es115), (bif b7' then .row 94 4 l247.length (es118 ++ [.agg #[.int .i64 x157.1.Root, .int .i64 x157.1.Cost, .int .i64 x157.1.Bridge, .int .i64 x157.1.Port]]) else .row 94 4 l117.length es118), .box 35 [.v (.int .i64 y134.Seg), .v (.int .i64 y134.Cost), .v (.bool y134.Up)], .box 41 [.v (.int .i64 x141.1.x0), .v (.int .i64 x141.1.x1)], .box 94 [.v (.int .i64 x157.1.Root), .v (.int .i64 x157.1.Cost), .v (.int .i64 x157.1.Bridge), .v (.int .i64 x157.1.Port)], (bif b3' then .gone else bif b2' then .row 3 1 1 [(.int .i64 i113)] else .gone), (bif b7' then .gone else bif b6' then .row 94 4 1 [(.agg #[.int .i64 x157.1.Root, .int .i64 x157.1.Cost, .int .i64 x157.1.Bridge, .int .i64 x157.1.Port])] else .gone)] ∧ GLe G233 Γ | _ => False) ⟨undef, undef, rfl, rfl, GLe.refl _⟩ rfl ?_ ?_)))) ⟨rfl, rfl, rfl, rfl, rfl, rfl, rfl, rfl, rfl, rfl, rfl, rfl, rfl, rfl, rfl, rfl, rfl, rfl, trivial⟩) ⟨⟨_, rfl, rfl⟩, ⟨_, rfl, rfl⟩, ⟨_, rfl, rfl⟩, ⟨_, rfl, rfl⟩, ⟨_, rfl, rfl⟩, ⟨_, rfl, rfl⟩, ⟨_, rfl, rfl⟩, ⟨_, rfl, rfl⟩, ⟨_, rfl, rfl⟩, ⟨_, rfl, rfl⟩, trivial⟩ ⟨.inr rfl, .inr rfl, .inr rfl, .inr rfl, .inr rfl, .inr rfl, trivial⟩ rfl rfl
                  · refine ⟨?_, ?_, ?_, ?_, ?_, ?_, ?_, ?_, ?_, ?_, trivial⟩
                    · intro b0' b1' b2' b3' b4' b5' b6' b7' b8' b9'
                      rintro ⟨⟩ ⟨⟩ ⟨⟩ ⟨⟩
                      rintro _ _ G252 ⟨vl246, vl250, rfl, rfl, hle251⟩ K hK
                      exact EL.step tabOk rfl (EL.nil (EX.sub' (hK _ _ _ ⟨vl246, vl250, rfl, rfl, hle251⟩) ⟨rfl, rfl, rfl, rfl, rfl, rfl, rfl, rfl, rfl, rfl, rfl, rfl, rfl, rfl, rfl, rfl, rfl, rfl, trivial⟩))
                    · intro b0' b1' b2' b3' b4' b5' b6' b7' b8' b9'
                      rintro ⟨⟩ ⟨⟩ ⟨⟩ ⟨⟩
                      rintro _ _ G254 ⟨vl246, vl250, rfl, rfl, hle253⟩ K hK
                      exact EL.step tabOk rfl (EL.nil (EX.sub' (hK _ _ _ ⟨vl246, vl250, rfl, rfl, hle253⟩) ⟨rfl, rfl, rfl, rfl, rfl, rfl, rfl, rfl, rfl, rfl, rfl, rfl, rfl, rfl, rfl, rfl, rfl, rfl, trivial⟩))
                    · intro b0' b1' b2' b3' b4' b5' b6' b7' b8' b9'
                      rintro ⟨⟩ ⟨⟩ ⟨⟩ ⟨⟩ ⟨⟩
                      rintro _ _ G256 ⟨vl246, vl250, rfl, rfl, hle255⟩ K hK
                      refine EL.step tabOk rfl (EL.nil (EX.homeR 6 rfl (by repeat' (first | exact nrE_nil | refine nrE_cons ?_ ?_ | exact nrO_none | exact nrO_some rfl | refine nrO_if ?_ ?_)) (by repeat' (first | exact nrL_nil | refine nrL_cons ?_ ?_ | exact rfl | refine nrN_if ?_ ?_)) rfl ?_))
                      exact EX.sub' (hK _ _ _ ⟨vl246, vl250, rfl, rfl, hle255⟩) ⟨rfl, rfl, rfl, rfl, rfl, rfl, rfl, rfl, rfl, rfl, rfl, rfl, rfl, rfl, rfl, rfl, rfl, rfl, trivial⟩
                    · intro b0' b1' b2' b3' b4' b5' b6' b7' b8' b9'
                      rintro ⟨⟩ ⟨⟩ ⟨⟩ ⟨⟩ ⟨⟩ ⟨⟩
                      rintro _ _ G258 ⟨vl246, vl250, rfl, rfl, hle257⟩ K hK
                      have h116 := Els.mono h116 hle257
                      refine EL.pushX (Lk := fun vl246 => [.box 25 [.v (.int .i64 p0.Segs), .v (.slice A1 p0.Plans.length c2), .v (.slice A4 p0.Hosts.length c5)], (bif false then .row 3 1 l243.length (es115 ++ [.int .i64 i113]) else .row 3 1 l114.length es115), (bif false then .row 94 4 l247.length (es118 ++ [.agg #[.int .i64 x157.1.Root, .int .i64 x157.1.Cost, .int .i64 x157.1.Bridge, .int .i64 x157.1.Port]]) else .row 94 4 l117.length es118), .box 35 [.v (.int .i64 y134.Seg), .v (.int .i64 y134.Cost), .v (.bool y134.Up)], .box 41 [.v (.int .i64 x141.1.x0), .v (.int .i64 x141.1.x1)], .box 94 [.v (.int .i64 x157.1.Root), .v (.int .i64 x157.1.Cost), .v (.int .i64 x157.1.Bridge), .v (.int .i64 x157.1.Port)], (bif false then .gone else bif true then .row 3 1 1 [(.int .i64 i113)] else .gone), (bif false then .gone else bif b6' then .row 94 4 1 [(.agg #[.int .i64 x157.1.Root, .int .i64 x157.1.Cost, .int .i64 x157.1.Bridge, .int .i64 x157.1.Port])] else .gone)]) hp244 h116 tabOk rfl rfl rfl rfl rfl rfl rfl rfl rfl rfl rfl rfl rfl rfl rfl [(83, bif b1' then some (.v (.int .i64 i113)) else none), (86, bif b4' then (bif false then none else some (.row 2)) else none), (87, bif b5' then some (.v (.agg #[.int .i64 x157.1.Root, .int .i64 x157.1.Cost, .int .i64 x157.1.Bridge, .int .i64 x157.1.Port])) else none), (88, bif b6' then (bif false then none else some (.row 7)) else none), (89, bif false then some (.row 2) else none), (8, bif false then some (.row 2) else (bif false then none else some (.row 2))), (1, some (.v (.slice A9 p1.length c10))), (2, some (.v (.int .i64 p2))), (3, some (.p 0 0)), (9, some (.v (.int .i64 i113))), (13, some (.p 5 0)), (34, some (.v (.slice A75 y68.Ports.length c76))), (35, some (.v (.int .i64 (y68.Ports.length : Int)))), (36, some (.v (.int .i64 i113)))] (by repeat' (first | exact kpE_nil | refine kpE_cons ?_ ?_ | exact kpO_none | exact kpO_some rfl | refine kpO_if ?_ ?_)) ⟨rfl, rfl, rfl, rfl, rfl, rfl, rfl, rfl, rfl, rfl, rfl, rfl, rfl, rfl, trivial⟩ (by intro blk val; repeat' (first | exact killR_nil | refine killR_cons ?_ ?_ | exact rfl | refine killN_if ?_ ?_)) (fun vl259 => ?_)
                      exact EL.nil (EX.sub' (hK _ _ _ ⟨vl259, vl250, rfl, rfl, hle257⟩) ⟨rfl, rfl, rfl, rfl, rfl, rfl, rfl, rfl, rfl, rfl, rfl, rfl, rfl, rfl, rfl, rfl, rfl, rfl, trivial⟩)
                    · intro b0' b1' b2' b3' b4' b5' b6' b7' b8' b9'
                      rintro ⟨⟩ ⟨⟩ ⟨⟩
                      rintro _ _ G261 ⟨vl246, vl250, rfl, rfl, hle260⟩ K hK
                      exact EL.step tabOk rfl (EL.nil (EX.sub' (hK _ _ _ ⟨vl246, vl250, rfl, rfl, hle260⟩) ⟨rfl, rfl, rfl, rfl, rfl, rfl, rfl, rfl, rfl, rfl, rfl, rfl, rfl, rfl, rfl, rfl, rfl, rfl, trivial⟩))
                    · intro b0' b1' b2' b3' b4' b5' b6' b7' b8' b9'
                      rintro ⟨⟩ ⟨⟩ ⟨⟩
                      rintro _ _ G263 ⟨vl246, vl250, rfl, rfl, hle262⟩ K hK
                      exact EL.step tabOk rfl (EL.nil (EX.sub' (hK _ _ _ ⟨vl246, vl250, rfl, rfl, hle262⟩) ⟨rfl, rfl, rfl, rfl, rfl, rfl, rfl, rfl, rfl, rfl, rfl, rfl, rfl, rfl, rfl, rfl, rfl, rfl, trivial⟩))
                    · intro b0' b1' b2' b3' b4' b5' b6' b7' b8' b9'
                      rintro ⟨⟩ ⟨⟩ ⟨⟩ ⟨⟩
                      rintro _ _ G265 ⟨vl246, vl250, rfl, rfl, hle264⟩ K hK
                      refine EL.step tabOk rfl (EL.nil (EX.homeR 7 rfl (by repeat' (first | exact nrE_nil | refine nrE_cons ?_ ?_ | exact nrO_none | exact nrO_some rfl | refine nrO_if ?_ ?_)) (by repeat' (first | exact nrL_nil | refine nrL_cons ?_ ?_ | exact rfl | refine nrN_if ?_ ?_)) rfl ?_))
                      exact EX.sub' (hK _ _ _ ⟨vl246, vl250, rfl, rfl, hle264⟩) ⟨rfl, rfl, rfl, rfl, rfl, rfl, rfl, rfl, rfl, rfl, rfl, rfl, rfl, rfl, rfl, rfl, rfl, rfl, trivial⟩
                    · intro b0' b1' b2' b3' b4' b5' b6' b7' b8' b9'
                      rintro ⟨⟩ ⟨⟩ ⟨⟩ ⟨⟩ ⟨⟩ ⟨⟩
                      rintro _ _ G267 ⟨vl246, vl250, rfl, rfl, hle266⟩ K hK
                      have h119 := Els.mono h119 hle266
                      refine EL.pushX (Lk := fun vl250 => [.box 25 [.v (.int .i64 p0.Segs), .v (.slice A1 p0.Plans.length c2), .v (.slice A4 p0.Hosts.length c5)], (bif true then .row 3 1 l243.length (es115 ++ [.int .i64 i113]) else .row 3 1 l114.length es115), (bif false then .row 94 4 l247.length (es118 ++ [.agg #[.int .i64 x157.1.Root, .int .i64 x157.1.Cost, .int .i64 x157.1.Bridge, .int .i64 x157.1.Port]]) else .row 94 4 l117.length es118), .box 35 [.v (.int .i64 y134.Seg), .v (.int .i64 y134.Cost), .v (.bool y134.Up)], .box 41 [.v (.int .i64 x141.1.x0), .v (.int .i64 x141.1.x1)], .box 94 [.v (.int .i64 x157.1.Root), .v (.int .i64 x157.1.Cost), .v (.int .i64 x157.1.Bridge), .v (.int .i64 x157.1.Port)], (bif true then .gone else bif b2' then .row 3 1 1 [(.int .i64 i113)] else .gone), (bif false then .gone else bif true then .row 94 4 1 [(.agg #[.int .i64 x157.1.Root, .int .i64 x157.1.Cost, .int .i64 x157.1.Bridge, .int .i64 x157.1.Port])] else .gone)]) hp248 h119 tabOk rfl rfl rfl rfl rfl rfl rfl rfl rfl rfl rfl rfl rfl rfl rfl [(82, bif b0' then (bif true then none else some (.row 1)) else none), (83, bif b1' then some (.v (.int .i64 i113)) else none), (84, bif b2' then (bif true then none else some (.row 6)) else none), (85, bif true then some (.row 1) else none), (87, bif b5' then some (.v (.agg #[.int .i64 x157.1.Root, .int .i64 x157.1.Cost, .int .i64 x157.1.Bridge, .int .i64 x157.1.Port])) else none), (7, bif false then some (.row 1) else (bif true then none else some (.row 1))), (1, some (.v (.slice A9 p1.length c10))), (2, some (.v (.int .i64 p2))), (3, some (.p 0 0)), (9, some (.v (.int .i64 i113))), (13, some (.p 5 0)), (34, some (.v (.slice A75 y68.Ports.length c76))), (35, some (.v (.int .i64 (y68.Ports.length : Int)))), (36, some (.v (.int .i64 i113)))] (by repeat' (first | exact kpE_nil | refine kpE_cons ?_ ?_ | exact kpO_none | exact kpO_some rfl | refine kpO_if ?_ ?_)) ⟨rfl, rfl, rfl, rfl, rfl, rfl, rfl, rfl, rfl, rfl, rfl, rfl, rfl, rfl, trivial⟩ (by intro blk val; repeat' (first | exact killR_nil | refine killR_cons ?_ ?_ | exact rfl | refine killN_if ?_ ?_)) (fun vl268 => ?_)
                      exact EL.nil (EX.sub' (hK _ _ _ ⟨vl246, vl268, rfl, rfl, hle266⟩) ⟨rfl, rfl, rfl, rfl, rfl, rfl, rfl, rfl, rfl, rfl, rfl, rfl, rfl, rfl, rfl, rfl, rfl, rfl, trivial⟩)
                    · intro b0' b1' b2' b3' b4' b5' b6' b7' b8' b9'
                      rintro ⟨⟩ ⟨⟩ ⟨⟩ ⟨⟩ ⟨⟩ ⟨⟩ ⟨⟩ ⟨⟩
                      rintro _ _ G270 ⟨vl246, vl250, rfl, rfl, hle269⟩ K hK
                      exact EL.step tabOk rfl (EL.nil (EX.sub' (hK _ _ _ ⟨vl246, vl250, rfl, rfl, hle269⟩) ⟨rfl, rfl, rfl, rfl, rfl, rfl, rfl, rfl, rfl, rfl, rfl, rfl, rfl, rfl, rfl, rfl, rfl, rfl, trivial⟩))
                    · intro b0' b1' b2' b3' b4' b5' b6' b7' b8' b9'
                      rintro ⟨⟩ ⟨⟩ ⟨⟩ ⟨⟩ ⟨⟩ ⟨⟩ ⟨⟩ ⟨⟩ ⟨⟩ ⟨⟩ ⟨⟩ ⟨⟩
                      rintro _ _ G272 ⟨vl246, vl250, rfl, rfl, hle271⟩ K hK
                      exact EL.step tabOk rfl (EL.nil (EX.sub' (hK _ _ _ ⟨vl246, vl250, rfl, rfl, hle271⟩) ⟨rfl, rfl, rfl, rfl, rfl, rfl, rfl, rfl, rfl, rfl, rfl, rfl, rfl, rfl, rfl, rfl, rfl, rfl, trivial⟩))
                  rintro _ _ G274 ⟨vl246, vl250, rfl, rfl, hle273⟩
                  have h11 := Rep.mono hle273 h11
                  have h77 := Rep.mono hle273 h77
                  have h3 := Rep.mono hle273 h3
                  have h6 := Rep.mono hle273 h6
                  have h245 := Els.mono h245 hle273
                  have h249 := Els.mono h249 hle273
                  exact EX.fewer (hj240 _ _ _ ⟨l243, l247, (es115 ++ [.int .i64 i113]), (es118 ++ [.agg #[.int .i64 x157.1.Root, .int .i64 x157.1.Cost, .int .i64 x157.1.Bridge, .int .i64 x157.1.Port]]), rfl, rfl, hle273, h245, h249, H⟩) ⟨⟨_, rfl, rfl⟩, ⟨_, rfl, rfl⟩, ⟨_, rfl, rfl⟩, ⟨_, rfl, rfl⟩, ⟨_, rfl, rfl⟩, ⟨_, rfl, rfl⟩, ⟨_, rfl, rfl⟩, ⟨_, rfl, rfl⟩, trivial⟩ ⟨.inr rfl, .inr rfl, .inr rfl, .inr rfl, .inr rfl, .inr rfl, trivial⟩ rfl rfl
                · skip
                  exact E.skip (EX.fewer (hj240 _ _ _ ⟨l114, l117, es115, es118, rfl, rfl, (GLe.refl _), h116, h119, H⟩) ⟨⟨_, rfl, rfl⟩, ⟨_, rfl, rfl⟩, ⟨_, rfl, rfl⟩, ⟨_, rfl, rfl⟩, ⟨_, rfl, rfl⟩, ⟨_, rfl, rfl⟩, ⟨_, rfl, rfl⟩, ⟨_, rfl, rfl⟩, trivial⟩ ⟨.inr rfl, .inr rfl, .inr rfl, .inr rfl, .inr rfl, .inr rfl, trivial⟩ rfl rfl)
          · skip
            refine E.region (EL.run tabOk 8 rfl (EL.split (s := 56) rfl H (fun hb H => ?_) (fun hb H => ?_)))
            · skip
              exact EL.run tabOk 5 rfl (EL.nil (EX.fewer (hj152 _ _ _ ⟨true, rfl, rfl, (GLe.refl _), H⟩) ⟨⟨_, rfl, rfl⟩, ⟨_, rfl, rfl⟩, ⟨_, rfl, rfl⟩, ⟨_, rfl, rfl⟩, ⟨_, rfl, rfl⟩, ⟨_, rfl, rfl⟩, ⟨_, rfl, rfl⟩, ⟨_, rfl, rfl⟩, ⟨_, rfl, rfl⟩, ⟨_, rfl, rfl⟩, ⟨_, rfl, rfl⟩, ⟨_, rfl, rfl⟩, trivial⟩ ⟨.inr rfl, .inr rfl, .inr rfl, .inr rfl, .inr rfl, trivial⟩ rfl rfl))
            · skip
              exact EL.run tabOk 5 rfl (EL.nil (EX.fewer (hj152 _ _ _ ⟨x141.1.x0 == p2, rfl, rfl, (GLe.refl _), H⟩) ⟨⟨_, rfl, rfl⟩, ⟨_, rfl, rfl⟩, ⟨_, rfl, rfl⟩, ⟨_, rfl, rfl⟩, ⟨_, rfl, rfl⟩, ⟨_, rfl, rfl⟩, ⟨_, rfl, rfl⟩, ⟨_, rfl, rfl⟩, ⟨_, rfl, rfl⟩, ⟨_, rfl, rfl⟩, ⟨_, rfl, rfl⟩, ⟨_, rfl, rfl⟩, trivial⟩ ⟨.inr rfl, .inr rfl, .inr rfl, .inr rfl, .inr rfl, trivial⟩ rfl rfl))
      · skip
        exact E.exit (EX.out (EX.out (EX.hit (EX.fewer (hj85 _ _ _ ⟨l114, l117, es115, es118, rfl, rfl, hle120, h116, h119, H⟩) ⟨⟨_, rfl, rfl⟩, ⟨_, rfl, rfl⟩, trivial⟩ ⟨.inr rfl, .inr rfl, .inr rfl, trivial⟩ rfl rfl))))
theorem tree_Roles_enters : Enters Try.prog 9 := ⟨_, Try.func9, rfl, rfl⟩
set_option maxHeartbeats 4000000 in
theorem tree_Roles_ok {k : Nat} {p0 : Lan} {r : ((List (List Int)) × Int)} (H : tree_Roles k p0 = some r) {G : Ghost} {w : World} (hG : Holds G w) {v0 : Value} (h0 : R G p0 v0) : Ret Try.prog 9 [v0] w G (fun G v => R2 G r v) := by
  obtain ⟨v7, v8, rfl, h3, h6⟩ := h0
  obtain ⟨A1, c2, rfl, h3⟩ := Sl.open h3
  obtain ⟨A4, c5, rfl, h6⟩ := Sl.open h6
  unfold tree_Roles at H
  refine start Try.func9 rfl Try.ntmps9 rfl hG (E.seq (E.region (EL.run tabOk 3 rfl (EL.nil (EX.seq (E.seq (E.seq (E.region (EL.run tabOk 1 rfl ?_)))))))))
  obtain ⟨x9, hx10, H⟩ := bind_some H
  refine EL.call rfl rfl rfl rfl lan_Right_enters (fun w hw => lan_Right_ok hx10 hw ⟨_, _, rfl, h3, h6⟩) (fun v13 G12 hle11 hv14 => ?_)
  have h3 := Rep.mono hle11 h3; have h6 := Rep.mono hle11 h6
  obtain rfl : _ = _ := hv14
  refine EL.run tabOk 1 rfl (EL.nil (EX.seq (E.cond rfl H (fun hb H => ?_) (fun hb H => ?_))))
  · skip
    exact E.seq (E.region (EL.run tabOk 2 rfl (EL.nil (EX.seq (E.ret (EX.retT (EX.retE H tabOk rfl ⟨_, _, rfl, (Sl.nil _), rfl⟩)))))))
  · skip
    refine E.skip (EX.seq (E.seq (E.region (EL.run tabOk 1 rfl ?_))))
    obtain ⟨x15, hx16, H⟩ := bind_some H
    refine EL.call rfl rfl rfl rfl tree_bests_enters (fun w hw => tree_bests_ok hx16 hw ⟨_, _, rfl, h3, h6⟩) (fun v19 G18 hle17 hv20 => ?_)
    have h3 := Rep.mono hle17 h3; have h6 := Rep.mono hle17 h6
    obtain ⟨A21, c22, rfl, h23⟩ := Sl.open hv20
    refine EL.run tabOk 1 rfl (EL.nil (EX.seq (E.seq (E.region (EL.run tabOk 1 rfl (EL.nil (EX.seq (E.seq (E.seq (E.region (EL.run tabOk 4 rfl (EL.nil (EX.seq (E.nilRow 5 47 1 rfl (E.join (fun env L Γ => ∃ (l24 : (List (List Int))) (es25 : List Value), env = [(5, some (.row 1))] ∧ L = [.box 25 [.v (.int .i64 p0.Segs), .v (.slice A1 p0.Plans.length c2), .v (.slice A4 p0.Hosts.length c5)], .row 47 1 l24.length es25] ∧ GLe G18 Γ ∧ Els Γ l24 es25 ∧ tree_Roles_j1 k l24 = some r) ?_ (fun hj27 => ?_))))))))))))))))
    · skip
      rintro _ _ G29 ⟨l24, es25, rfl, rfl, hle28, h26, H⟩
      unfold tree_Roles_j1 at H
      have h3 := Rep.mono hle28 h3; have h6 := Rep.mono hle28 h6
      refine EX.seq (E.seq (E.region (EL.run tabOk 3 rfl (EL.nil (EX.seq (E.ret (EX.pubRow (xs := l24) 1 rfl h26 rfl (fun k30 A31 c32 G35 hle33 h34 => ?_))))))))
      have h3 := Rep.mono hle33 h3; have h6 := Rep.mono hle33 h6
      exact EX.retE H tabOk rfl ⟨_, _, rfl, h34, rfl⟩
    · skip
      refine E.block (E.fewer (E.loop (fun n env L Γ => ∃ (i36 : Int) (l37 : (List (List Int))) (es38 : List Value), env = [(1, some (.p 0 0)), (4, some (.v (.slice A21 x15.length c22))), (5, some (.row 1)), (21, some (.v (.slice A1 p0.Plans.length c2))), (22, some (.v (.int .i64 (p0.Plans.length : Int)))), (23, some (.v (.int .i64 i36)))] ∧ L = [.box 25 [.v (.int .i64 p0.Segs), .v (.slice A1 p0.Plans.length c2), .v (.slice A4 p0.Hosts.length c5)], .row 47 1 l37.length es38] ∧ GLe G18 Γ ∧ Els Γ l37 es38 ∧ loopN (fun _ _ => none) (tree_Roles_s7 k p0 x15) n i36 l37 = some r) k ⟨0, [], [], rfl, rfl, GLe.refl _, All2.nil, H⟩ ?_) ⟨⟨_, rfl, rfl⟩, ⟨_, rfl, rfl⟩, ⟨_, rfl, rfl⟩, ⟨_, rfl, rfl⟩, ⟨_, rfl, rfl⟩, ⟨_, rfl, rfl⟩, trivial⟩ ⟨.inr rfl, .inr rfl, trivial⟩ rfl rfl)
      rintro n44 _ _ G42 ⟨i36, l37, es38, rfl, rfl, hle40, h39, H⟩ K hK43
      obtain _ | n44 := n44
      · exact none_ne H
      rw [loopN] at H; unfold tree_Roles_s7 at H
      have h23 := Rep.mono hle40 h23; have h3 := Rep.mono hle40 h3; have h6 := Rep.mono hle40 h6
      refine E.seq (E.region (EL.run tabOk 1 rfl (EL.nil (EX.seq (E.seq (E.cond rfl H (fun hb H => ?_) (fun hb H => ?_)))))))
      · skip
        refine E.skip (EX.seq (E.seq (E.block (E.seq (E.region (EL.run tabOk 1 rfl ?_))))))
        obtain ⟨y45, hy46, H⟩ := bind_some H
        refine EL.index hy46 h3 tabOk rfl rfl rfl rfl rfl rfl rfl rfl (fun b47 o48 u49 hu50 hc51 => ?_)
        obtain ⟨v55, rfl, h54⟩ := hu50
        obtain ⟨A52, c53, rfl, h54⟩ := Sl.open h54
        refine EL.load hc51 tabOk rfl rfl rfl rfl rfl rfl (EL.run tabOk 3 rfl (EL.nil (EX.seq (E.seq (E.region (EL.run tabOk 3 rfl ?_))))))
        obtain ⟨x56, hx57, H⟩ := bind_some H
        refine EL.call rfl rfl rfl rfl tree_root_enters (fun w hw => tree_root_ok hx57 hw ⟨_, _, rfl, h3, h6⟩ h23) (fun v60 G59 hle58 hv61 => ?_)
        have h23 := Rep.mono hle58 h23; have h3 := Rep.mono hle58 h3; have h6 := Rep.mono hle58 h6; have h39 := Els.mono h39 hle58; have h54 := Rep.mono hle58 h54
        obtain rfl : _ = _ := hv61
        refine EL.run tabOk 1 rfl (EL.nil (EX.seq (E.seq (E.region (EL.run tabOk 1 rfl (EL.nil (EX.seq (E.seq (E.seq (E.region (EL.run tabOk 4 rfl (EL.nil (EX.seq (E.nilRow 9 3 1 rfl (E.join (fun env L Γ => ∃ (l62 : (List Int)) (es63 : List Value), env = [(1, some (.p 0 0)), (4, some (.v (.slice A21 x15.length c22))), (5, some (.row 1)), (9, some (.row 3)), (21, some (.v (.slice A1 p0.Plans.length c2))), (22, some (.v (.int .i64 (p0.Plans.length : Int)))), (23, some (.v (.int .i64 i36)))] ∧ L = [.box 25 [.v (.int .i64 p0.Segs), .v (.slice A1 p0.Plans.length c2), .v (.slice A4 p0.Hosts.length c5)], .row 47 1 l37.length es38, .box 33 [.v (.int .i64 y45.ID), .v (.slice A52 y45.Ports.length c53)], .row 3 1 l62.length es63] ∧ GLe G59 Γ ∧ Els Γ l62 es63 ∧ tree_Roles_j2 k i36 l37 (loopN (fun _ _ => none) (tree_Roles_s7 k p0 x15) n44) l62 = some r) ?_ (fun hj65 => ?_))))))))))))))))
        · skip
          rintro _ _ G67 ⟨l62, es63, rfl, rfl, hle66, h64, H⟩
          unfold tree_Roles_j2 at H
          have h23 := Rep.mono hle66 h23; have h3 := Rep.mono hle66 h3; have h6 := Rep.mono hle66 h6; have h39 := Els.mono h39 hle66; have h54 := Rep.mono hle66 h54
          refine EX.seq (E.region (EL.run tabOk 2 rfl (EL.pubRow (xs := l62) 3 rfl h64 rfl rfl (fun k68 A69 c70 G73 hle71 h72 => ?_))))
          have h23 := Rep.mono hle71 h23; have h3 := Rep.mono hle71 h3; have h6 := Rep.mono hle71 h6; have h39 := Els.mono h39 hle71; have h54 := Rep.mono hle71 h54
          refine EL.run tabOk 1 rfl ?_
          obtain ⟨l74, hp75, H⟩ := bind_some H
          refine EL.push hp75 h39 (show R G73 l62 (.slice A69 l62.length c70) from h72) tabOk rfl rfl rfl rfl rfl rfl rfl rfl rfl rfl rfl rfl rfl rfl rfl (fun k76 v77 es78 h79 => ?_)
          exact EL.run tabOk 1 rfl (EL.nil (EX.block (EX.seq (E.region (EL.run tabOk 2 rfl (EL.nil (EX.fewer (hK43 n44 _ _ _ (Nat.lt_succ_self _) ⟨wr (i36 + 1), l74, es78, rfl, rfl, (GLe.trans (GLe.trans (GLe.trans hle40 hle58) hle66) hle71), h79, H⟩) ⟨⟨_, rfl, rfl⟩, ⟨_, rfl, rfl⟩, ⟨_, rfl, rfl⟩, ⟨_, rfl, rfl⟩, ⟨_, rfl, rfl⟩, ⟨_, rfl, rfl⟩, trivial⟩ ⟨.inr rfl, .inr rfl, trivial⟩ rfl rfl)))))))
        · skip
          refine E.block (E.fewer (E.loop (fun n env L Γ => ∃ (i80 : Int) (l81 : (List Int)) (es82 : List Value), env = [(1, some (.p 0 0)), (4, some (.v (.slice A21 x15.length c22))), (5, some (.row 1)), (6, some (.v (.int .i64 i36))), (8, some (.v (.int .i64 x56))), (9, some (.row 3)), (21, some (.v (.slice A1 p0.Plans.length c2))), (22, some (.v (.int .i64 (p0.Plans.length : Int)))), (23, some (.v (.int .i64 i36))), (33, some (.v (.slice A52 y45.Ports.length c53))), (34, some (.v (.int .i64 (y45.Ports.length : Int)))), (35, some (.v (.int .i64 i80)))] ∧ L = [.box 25 [.v (.int .i64 p0.Segs), .v (.slice A1 p0.Plans.length c2), .v (.slice A4 p0.Hosts.length c5)], .row 47 1 l37.length es38, .box 33 [.v (.int .i64 y45.ID), .v (.slice A52 y45.Ports.length c53)], .row 3 1 l81.length es82] ∧ GLe G59 Γ ∧ Els Γ l81 es82 ∧ loopN (fun _ _ => none) (tree_Roles_s6 k p0 x15 i36 l37 (loopN (fun _ _ => none) (tree_Roles_s7 k p0 x15) n44) y45 x56) n i80 l81 = some r) k ⟨0, [], [], rfl, rfl, GLe.refl _, All2.nil, H⟩ ?_) ⟨⟨_, rfl, rfl⟩, ⟨_, rfl, rfl⟩, ⟨_, rfl, rfl⟩, ⟨_, rfl, rfl⟩, ⟨_, rfl, rfl⟩, ⟨_, rfl, rfl⟩, ⟨_, rfl, rfl⟩, ⟨_, rfl, rfl⟩, ⟨_, rfl, rfl⟩, ⟨_, rfl, rfl⟩, ⟨_, rfl, rfl⟩, ⟨_, rfl, rfl⟩, trivial⟩ ⟨.inr rfl, .inr rfl, .inr rfl, .inr rfl, trivial⟩ rfl rfl)
          rintro n88 _ _ G86 ⟨i80, l81, es82, rfl, rfl, hle84, h83, H⟩ K hK87
          obtain _ | n88 := n88
          · exact none_ne H
          rw [loopN] at H; unfold tree_Roles_s6 at H
          have h23 := Rep.mono hle84 h23; have h3 := Rep.mono hle84 h3; have h54 := Rep.mono hle84 h54; have h6 := Rep.mono hle84 h6; have h39 := Els.mono h39 hle84
          refine E.seq (E.region (EL.run tabOk 1 rfl (EL.nil (EX.seq (E.seq (E.cond rfl H (fun hb H => ?_) (fun hb H => ?_)))))))
          · skip
            refine E.skip (EX.seq (E.seq (E.block (E.seq (E.region (EL.run tabOk 1 rfl ?_))))))
            obtain ⟨y89, hy90, H⟩ := bind_some H
            refine EL.index hy90 h54 tabOk rfl rfl rfl rfl rfl rfl rfl rfl (fun b91 o92 u93 hu94 hc95 => ?_)
            obtain rfl : _ = _ := hu94
            refine EL.load hc95 tabOk rfl rfl rfl rfl rfl rfl (EL.run tabOk 3 rfl (EL.nil (EX.seq (E.seq (E.region (EL.run tabOk 1 rfl (EL.nil (EX.seq (E.seq (E.seq (E.region (EL.run tabOk 4 rfl ?_))))))))))))
            obtain ⟨x96, hx97, H⟩ := bind_some H
            refine EL.call rfl rfl rfl rfl tree_own_enters (fun w hw => tree_own_ok hx97 hw ⟨_, _, rfl, h3, h6⟩ h23) (fun v100 G99 hle98 hv101 => ?_)
            have h23 := Rep.mono hle98 h23; have h3 := Rep.mono hle98 h3; have h54 := Rep.mono hle98 h54; have h6 := Rep.mono hle98 h6; have h39 := Els.mono h39 hle98; have h83 := Els.mono h83 hle98
            obtain ⟨u102, u103, rfl, h104, h105⟩ := hv101
            obtain rfl : _ = _ := h104
            obtain rfl : _ = _ := h105
            refine EL.run tabOk 6 rfl (EL.nil (EX.seq (E.seq (E.region (EL.run tabOk 3 rfl (EL.nil (EX.seq (E.join (fun env L Γ => ∃ (i106 : Int), env = [(1, some (.p 0 0)), (4, some (.v (.slice A21 x15.length c22))), (5, some (.row 1)), (6, some (.v (.int .i64 i36))), (8, some (.v (.int .i64 x56))), (9, some (.row 3)), (12, some (.v (.int .i64 i106))), (21, some (.v (.slice A1 p0.Plans.length c2))), (22, some (.v (.int .i64 (p0.Plans.length : Int)))), (23, some (.v (.int .i64 i36))), (33, some (.v (.slice A52 y45.Ports.length c53))), (34, some (.v (.int .i64 (y45.Ports.length : Int)))), (35, some (.v (.int .i64 i80)))] ∧ L = [.box 25 [.v (.int .i64 p0.Segs), .v (.slice A1 p0.Plans.length c2), .v (.slice A4 p0.Hosts.length c5)], .row 47 1 l37.length es38, .box 33 [.v (.int .i64 y45.ID), .v (.slice A52 y45.Ports.length c53)], .row 3 1 l81.length es82, .box 35 [.v (.int .i64 y89.Seg), .v (.int .i64 y89.Cost), .v (.bool y89.Up)], .box 41 [.v (.int .i64 x96.1.x0), .v (.int .i64 x96.1.x1)]] ∧ GLe G99 Γ ∧ tree_Roles_j3 k i80 l81 (loopN (fun _ _ => none) (tree_Roles_s6 k p0 x15 i36 l37 (loopN (fun _ _ => none) (tree_Roles_s7 k p0 x15) n44) y45 x56) n88) i106 = some r) ?_ (fun hj107 => ?_)))))))))
            · skip
              rintro _ _ G109 ⟨i106, rfl, rfl, hle108, H⟩
              unfold tree_Roles_j3 at H
              have h23 := Rep.mono hle108 h23; have h3 := Rep.mono hle108 h3; have h54 := Rep.mono hle108 h54; have h6 := Rep.mono hle108 h6; have h39 := Els.mono h39 hle108; have h83 := Els.mono h83 hle108
              refine EX.seq (E.region (EL.run tabOk 3 rfl ?_))
              obtain ⟨l110, hp111, H⟩ := bind_some H
              refine EL.push hp111 h83 (show R G109 i106 (.int .i64 i106) from rfl) tabOk rfl rfl rfl rfl rfl rfl rfl rfl rfl rfl rfl rfl rfl rfl rfl (fun k112 v113 es114 h115 => ?_)
              exact EL.run tabOk 1 rfl (EL.nil (EX.block (EX.seq (E.region (EL.run tabOk 2 rfl (EL.nil (EX.fewer (hK87 n88 _ _ _ (Nat.lt_succ_self _) ⟨wr (i80 + 1), l110, es114, rfl, rfl, (GLe.trans (GLe.trans hle84 hle98) hle108), h115, H⟩) ⟨⟨_, rfl, rfl⟩, ⟨_, rfl, rfl⟩, ⟨_, rfl, rfl⟩, ⟨_, rfl, rfl⟩, ⟨_, rfl, rfl⟩, ⟨_, rfl, rfl⟩, ⟨_, rfl, rfl⟩, ⟨_, rfl, rfl⟩, ⟨_, rfl, rfl⟩, ⟨_, rfl, rfl⟩, ⟨_, rfl, rfl⟩, ⟨_, rfl, rfl⟩, trivial⟩ ⟨.inr rfl, .inr rfl, .inr rfl, .inr rfl, trivial⟩ rfl rfl)))))))
            · skip
              refine E.cond rfl H (fun hb H => ?_) (fun hb H => ?_)
              · skip
                exact E.region (EL.run tabOk 1 rfl (EL.nil (EX.fewer (hj107 _ _ _ ⟨3, rfl, rfl, (GLe.refl _), H⟩) ⟨⟨_, rfl, rfl⟩, ⟨_, rfl, rfl⟩, ⟨_, rfl, rfl⟩, ⟨_, rfl, rfl⟩, ⟨_, rfl, rfl⟩, ⟨_, rfl, rfl⟩, ⟨_, rfl, rfl⟩, ⟨_, rfl, rfl⟩, ⟨_, rfl, rfl⟩, ⟨_, rfl, rfl⟩, ⟨_, rfl, rfl⟩, ⟨_, rfl, rfl⟩, ⟨_, rfl, rfl⟩, trivial⟩ ⟨.inr rfl, .inr rfl, .inr rfl, .inr rfl, .inr rfl, .inr rfl, trivial⟩ rfl rfl)))
              · skip
                refine E.seq (E.region (EL.run tabOk 4 rfl (EL.eqA tabOk gt41 rfl rfl rfl rfl rfl rfl rfl rfl false rfl (EL.nil (EX.seq (E.join (fun env L Γ => ∃ (i116 : Int), env = [(1, some (.p 0 0)), (4, some (.v (.slice A21 x15.length c22))), (5, some (.row 1)), (6, some (.v (.int .i64 i36))), (8, some (.v (.int .i64 x56))), (9, some (.row 3)), (12, some (.v (.int .i64 i116))), (21, some (.v (.slice A1 p0.Plans.length c2))), (22, some (.v (.int .i64 (p0.Plans.length : Int)))), (23, some (.v (.int .i64 i36))), (33, some (.v (.slice A52 y45.Ports.length c53))), (34, some (.v (.int .i64 (y45.Ports.length : Int)))), (35, some (.v (.int .i64 i80)))] ∧ L = [.box 25 [.v (.int .i64 p0.Segs), .v (.slice A1 p0.Plans.length c2), .v (.slice A4 p0.Hosts.length c5)], .row 47 1 l37.length es38, .box 33 [.v (.int .i64 y45.ID), .v (.slice A52 y45.Ports.length c53)], .row 3 1 l81.length es82, .box 35 [.v (.int .i64 y89.Seg), .v (.int .i64 y89.Cost), .v (.bool y89.Up)], .box 41 [.v (.int .i64 x96.1.x0), .v (.int .i64 x96.1.x1)]] ∧ GLe G99 Γ ∧ tree_Roles_j4 k i80 l81 (loopN (fun _ _ => none) (tree_Roles_s6 k p0 x15 i36 l37 (loopN (fun _ _ => none) (tree_Roles_s7 k p0 x15) n44) y45 x56) n88) i116 = some r) ?_ (fun hj117 => ?_)))))))
                · skip
                  rintro _ _ G119 ⟨i116, rfl, rfl, hle118, H⟩
                  unfold tree_Roles_j4 at H
                  have h23 := Rep.mono hle118 h23; have h3 := Rep.mono hle118 h3; have h54 := Rep.mono hle118 h54; have h6 := Rep.mono hle118 h6; have h39 := Els.mono h39 hle118; have h83 := Els.mono h83 hle118
                  exact EX.fewer (hj107 _ _ _ ⟨i116, rfl, rfl, hle118, H⟩) ⟨⟨_, rfl, rfl⟩, ⟨_, rfl, rfl⟩, ⟨_, rfl, rfl⟩, ⟨_, rfl, rfl⟩, ⟨_, rfl, rfl⟩, ⟨_, rfl, rfl⟩, ⟨_, rfl, rfl⟩, ⟨_, rfl, rfl⟩, ⟨_, rfl, rfl⟩, ⟨_, rfl, rfl⟩, ⟨_, rfl, rfl⟩, ⟨_, rfl, rfl⟩, ⟨_, rfl, rfl⟩, trivial⟩ ⟨.inr rfl, .inr rfl, .inr rfl, .inr rfl, .inr rfl, .inr rfl, trivial⟩ rfl rfl
                · skip
                  refine E.cond rfl H (fun hb H => ?_) (fun hb H => ?_)
                  · skip
                    exact E.region (EL.run tabOk 1 rfl (EL.nil (EX.fewer (hj117 _ _ _ ⟨1, rfl, rfl, (GLe.refl _), H⟩) ⟨⟨_, rfl, rfl⟩, ⟨_, rfl, rfl⟩, ⟨_, rfl, rfl⟩, ⟨_, rfl, rfl⟩, ⟨_, rfl, rfl⟩, ⟨_, rfl, rfl⟩, ⟨_, rfl, rfl⟩, ⟨_, rfl, rfl⟩, ⟨_, rfl, rfl⟩, ⟨_, rfl, rfl⟩, ⟨_, rfl, rfl⟩, ⟨_, rfl, rfl⟩, ⟨_, rfl, rfl⟩, trivial⟩ ⟨.inr rfl, .inr rfl, .inr rfl, .inr rfl, .inr rfl, .inr rfl, trivial⟩ rfl rfl)))
                  · skip
                    refine E.seq (E.region (EL.run tabOk 3 rfl (EL.nil (EX.seq (E.join (fun env L Γ => ∃ (i120 : Int), env = [(1, some (.p 0 0)), (4, some (.v (.slice A21 x15.length c22))), (5, some (.row 1)), (6, some (.v (.int .i64 i36))), (8, some (.v (.int .i64 x56))), (9, some (.row 3)), (12, some (.v (.int .i64 i120))), (21, some (.v (.slice A1 p0.Plans.length c2))), (22, some (.v (.int .i64 (p0.Plans.length : Int)))), (23, some (.v (.int .i64 i36))), (33, some (.v (.slice A52 y45.Ports.length c53))), (34, some (.v (.int .i64 (y45.Ports.length : Int)))), (35, some (.v (.int .i64 i80)))] ∧ L = [.box 25 [.v (.int .i64 p0.Segs), .v (.slice A1 p0.Plans.length c2), .v (.slice A4 p0.Hosts.length c5)], .row 47 1 l37.length es38, .box 33 [.v (.int .i64 y45.ID), .v (.slice A52 y45.Ports.length c53)], .row 3 1 l81.length es82, .box 35 [.v (.int .i64 y89.Seg), .v (.int .i64 y89.Cost), .v (.bool y89.Up)], .box 41 [.v (.int .i64 x96.1.x0), .v (.int .i64 x96.1.x1)]] ∧ GLe G99 Γ ∧ tree_Roles_j5 k i80 l81 (loopN (fun _ _ => none) (tree_Roles_s6 k p0 x15 i36 l37 (loopN (fun _ _ => none) (tree_Roles_s7 k p0 x15) n44) y45 x56) n88) i120 = some r) ?_ (fun hj121 => ?_))))))
                    · skip
                      rintro _ _ G123 ⟨i120, rfl, rfl, hle122, H⟩
                      unfold tree_Roles_j5 at H
                      have h23 := Rep.mono hle122 h23; have h3 := Rep.mono hle122 h3; have h54 := Rep.mono hle122 h54; have h6 := Rep.mono hle122 h6; have h39 := Els.mono h39 hle122; have h83 := Els.mono h83 hle122
                      exact EX.fewer (hj117 _ _ _ ⟨i120, rfl, rfl, hle122, H⟩) ⟨⟨_, rfl, rfl⟩, ⟨_, rfl, rfl⟩, ⟨_, rfl, rfl⟩, ⟨_, rfl, rfl⟩, ⟨_, rfl, rfl⟩, ⟨_, rfl, rfl⟩, ⟨_, rfl, rfl⟩, ⟨_, rfl, rfl⟩, ⟨_, rfl, rfl⟩, ⟨_, rfl, rfl⟩, ⟨_, rfl, rfl⟩, ⟨_, rfl, rfl⟩, ⟨_, rfl, rfl⟩, trivial⟩ ⟨.inr rfl, .inr rfl, .inr rfl, .inr rfl, .inr rfl, .inr rfl, trivial⟩ rfl rfl
                    · skip
                      refine E.cond rfl H (fun hb H => ?_) (fun hb H => ?_)
                      · skip
                        exact E.region (EL.run tabOk 1 rfl (EL.nil (EX.fewer (hj121 _ _ _ ⟨0, rfl, rfl, (GLe.refl _), H⟩) ⟨⟨_, rfl, rfl⟩, ⟨_, rfl, rfl⟩, ⟨_, rfl, rfl⟩, ⟨_, rfl, rfl⟩, ⟨_, rfl, rfl⟩, ⟨_, rfl, rfl⟩, ⟨_, rfl, rfl⟩, ⟨_, rfl, rfl⟩, ⟨_, rfl, rfl⟩, ⟨_, rfl, rfl⟩, ⟨_, rfl, rfl⟩, ⟨_, rfl, rfl⟩, ⟨_, rfl, rfl⟩, trivial⟩ ⟨.inr rfl, .inr rfl, .inr rfl, .inr rfl, .inr rfl, .inr rfl, trivial⟩ rfl rfl)))
                      · skip
                        exact E.skip (EX.fewer (hj121 _ _ _ ⟨2, rfl, rfl, (GLe.refl _), H⟩) ⟨⟨_, rfl, rfl⟩, ⟨_, rfl, rfl⟩, ⟨_, rfl, rfl⟩, ⟨_, rfl, rfl⟩, ⟨_, rfl, rfl⟩, ⟨_, rfl, rfl⟩, ⟨_, rfl, rfl⟩, ⟨_, rfl, rfl⟩, ⟨_, rfl, rfl⟩, ⟨_, rfl, rfl⟩, ⟨_, rfl, rfl⟩, ⟨_, rfl, rfl⟩, ⟨_, rfl, rfl⟩, trivial⟩ ⟨.inr rfl, .inr rfl, .inr rfl, .inr rfl, .inr rfl, .inr rfl, trivial⟩ rfl rfl)
          · skip
            exact E.exit (EX.out (EX.out (EX.hit (EX.fewer (hj65 _ _ _ ⟨l81, es82, rfl, rfl, hle84, h83, H⟩) ⟨⟨_, rfl, rfl⟩, ⟨_, rfl, rfl⟩, ⟨_, rfl, rfl⟩, ⟨_, rfl, rfl⟩, ⟨_, rfl, rfl⟩, ⟨_, rfl, rfl⟩, ⟨_, rfl, rfl⟩, trivial⟩ ⟨.inr rfl, .inr rfl, .inr rfl, .inr rfl, trivial⟩ rfl rfl))))
      · skip
        exact E.exit (EX.out (EX.out (EX.hit (EX.fewer (hj27 _ _ _ ⟨l37, es38, rfl, rfl, hle40, h39, H⟩) ⟨⟨_, rfl, rfl⟩, trivial⟩ ⟨.inr rfl, .inr rfl, trivial⟩ rfl rfl))))
end Go.Proofs.Ytdiclbejalelfaa
