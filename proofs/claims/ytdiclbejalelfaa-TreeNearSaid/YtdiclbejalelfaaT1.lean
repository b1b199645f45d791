/- PRINTED by a program of the claim's own: the types of the seat, and Go's functions as Lean functions, each with the proof that a call of it comes to that. -/
import Derived.Test.YtdiclbejalelfaaT0
set_option linter.unusedVariables false
set_option linter.unusedSimpArgs false
set_option maxRecDepth 100000
namespace Go.Proofs.Ytdiclbejalelfaa
open Go.RowKit
open Rep (R)
theorem tree_bests_enters : Enters Try.prog 20 := ⟨_, Try.func20, rfl, rfl⟩
set_option maxHeartbeats 4000000 in
theorem tree_bests_ok {k : Nat} {p0 : Lan} {r : (List arr2_i64)} (H : tree_bests k p0 = some r) {G : Ghost} {w : World} (hG : Holds G w) {v0 : Value} (h0 : R G p0 v0) : Ret Try.prog 20 [v0] w G (fun G v => R G r v) := by
  obtain ⟨v7, v8, rfl, h3, h6⟩ := h0
  obtain ⟨A1, c2, rfl, h3⟩ := Sl.open h3
  obtain ⟨A4, c5, rfl, h6⟩ := Sl.open h6
  unfold tree_bests at H
  refine start Try.func20 rfl Try.ntmps20 rfl hG (E.seq (E.region (EL.run tabOk 2 rfl (EL.nil (EX.seq (E.seq (E.region (EL.run tabOk 4 rfl (EL.nil (EX.seq (E.seq (E.seq (E.region (EL.run tabOk 4 rfl (EL.nil (EX.seq (E.join (fun env L Γ => ∃ (l9 : (List tree_way)) (es10 : List Value), env = [(1, some (.p 0 0)), (3, some (.ip 81 2 0))] ∧ L = [.box 25 [.v (.int .i64 p0.Segs), .v (.slice A1 p0.Plans.length c2), .v (.slice A4 p0.Hosts.length c5)], .row 88 3 l9.length es10, .box 83 [.row 1]] ∧ GLe G Γ ∧ Els Γ l9 es10 ∧ tree_bests_j32 k p0 l9 = some r) ?_ (fun hj12 => ?_))))))))))))))))))
  · skip
    rintro _ _ G14 ⟨l9, es10, rfl, rfl, hle13, h11, H⟩
    unfold tree_bests_j32 at H
    have h3 := Rep.mono hle13 h3; have h6 := Rep.mono hle13 h6
    refine EX.seq (E.seq (E.region (EL.run tabOk 3 rfl ?_)))
    obtain ⟨l15, hx16, H⟩ := bind_some H
    refine EL.mk (z := .agg #[.int .i64 0, .int .i64 0]) hx16 rfl tabOk rfl rfl rfl rfl rfl rfl rfl rfl rfl rfl rfl (fun es17 h18 => ?_)
    refine EL.run tabOk 1 rfl (EL.nil (EX.seq (E.seq (E.region (EL.makeMap rfl rfl rfl (EL.run tabOk 1 rfl (EL.nil (EX.seq (E.seq (E.join (fun env L Γ => ∃ (l19 : (List tree_way)) (l22 : (List arr2_i64)) (m25 : (List (Int × Bool))) (es20 : List Value) (es23 : List Value), env = [(6, some (.row 3))] ∧ L = [.box 25 [.v (.int .i64 p0.Segs), .v (.slice A1 p0.Plans.length c2), .v (.slice A4 p0.Hosts.length c5)], .row 88 3 l19.length es20, .box 83 [.row 1], .row 61 2 l22.length es23, .mp (mE Value.bool m25)] ∧ GLe G14 Γ ∧ Els Γ l19 es20 ∧ Els Γ l22 es23 ∧ tree_bests_j1 k l19 l22 m25 = some r) ?_ (fun hj26 => ?_)))))))))))
    · skip
      rintro _ _ G28 ⟨l19, l22, m25, es20, es23, rfl, rfl, hle27, h21, h24, H⟩
      unfold tree_bests_j1 at H
      have h3 := Rep.mono hle27 h3; have h6 := Rep.mono hle27 h6
      refine EX.seq (E.seq (E.region (EL.run tabOk 2 rfl (EL.nil (EX.seq (E.ret (EX.pubRow (xs := l22) 3 rfl h24 rfl (fun k29 A30 c31 G34 hle32 h33 => ?_))))))))
      have h3 := Rep.mono hle32 h3; have h6 := Rep.mono hle32 h6; have h21 := Els.mono h21 hle32
      exact EX.retE H tabOk rfl h33
    · skip
      refine E.block (E.fewer (E.loop (fun n env L Γ => ∃ (l35 : (List tree_way)) (l38 : (List arr2_i64)) (m41 : (List (Int × Bool))) (es36 : List Value) (es39 : List Value), env = [(1, some (.p 0 0)), (3, some (.ip 81 2 0)), (6, some (.row 3)), (7, some (.mp 4))] ∧ L = [.box 25 [.v (.int .i64 p0.Segs), .v (.slice A1 p0.Plans.length c2), .v (.slice A4 p0.Hosts.length c5)], .row 88 3 l35.length es36, .box 83 [.row 1], .row 61 2 l38.length es39, .mp (mE Value.bool m41)] ∧ GLe G14 Γ ∧ Els Γ l35 es36 ∧ Els Γ l38 es39 ∧ loopN (fun _ _ _ => none) (tree_bests_s31 k p0) n l35 l38 m41 = some r) k ⟨l9, l15, [], es10, es17, rfl, rfl, GLe.refl _, h11, h18, H⟩ ?_) ⟨⟨_, rfl, rfl⟩, ⟨_, rfl, rfl⟩, ⟨_, rfl, rfl⟩, ⟨_, rfl, rfl⟩, trivial⟩ ⟨.inr rfl, .inr rfl, .inr rfl, .inr rfl, .inr rfl, trivial⟩ rfl rfl)
      rintro n46 _ _ G44 ⟨l35, l38, m41, es36, es39, rfl, rfl, hle42, h37, h40, H⟩ K hK45
      obtain _ | n46 := n46
      · exact none_ne H
      rw [loopN] at H; unfold tree_bests_s31 at H
      have h3 := Rep.mono hle42 h3; have h6 := Rep.mono hle42 h6
      refine E.seq (E.seq (E.region (EL.run tabOk 1 rfl (EL.inv [1, 3, 6, 7] rfl rfl rfl rfl rfl (mth_val tabOk mth_81_Len rfl rfl) Try.func81 tree_ways_Len_enters rfl Try.ntmps81 rfl rfl (fun L Γ ks s => ∃ (vals47 : List Value) (l50 : (List tree_way)) (i53 : Int) (es51 : List Value), L = [.box 25 [.v (.int .i64 p0.Segs), .v (.slice A1 p0.Plans.length c2), .v (.slice A4 p0.Hosts.length c5)], .row 88 3 l50.length es51, .box 83 [.row 1], .row 61 2 l38.length es39, .mp (mE Value.bool m41), .sav [.p 0 0, .ip 81 2 0, .row 3, .mp 4] vals47] ∧ ks = [.p 0 0, .ip 81 2 0, .row 3, .mp 4] ∧ s = .v (.int .i64 i53) ∧ GLe G44 Γ ∧ Els Γ l50 es51 ∧ tree_bests_j30 k p0 l38 m41 (loopN (fun _ _ _ => none) (tree_bests_s31 k p0) n46) l50 i53 = some r) ?_ ?_))))
      · skip
        rintro _ G55 _ _ ⟨vals47, l50, i53, es51, rfl, rfl, rfl, hle54, h52, H⟩
        unfold tree_bests_j30 at H
        have h3 := Rep.mono hle54 h3; have h6 := Rep.mono hle54 h6; have h40 := Els.mono h40 hle54
        refine EL.run tabOk 1 rfl (EL.nil (EX.seq (E.cond rfl H (fun hb H => ?_) (fun hb H => ?_))))
        · skip
          refine E.skip (EX.seq (E.join (fun env L Γ => ∃ (l56 : (List tree_way)) (l59 : (List arr2_i64)) (m62 : (List (Int × Bool))) (es57 : List Value) (es60 : List Value), env = [(1, some (.p 0 0)), (3, some (.ip 81 2 0)), (6, some (.row 3)), (7, some (.mp 4))] ∧ L = [.box 25 [.v (.int .i64 p0.Segs), .v (.slice A1 p0.Plans.length c2), .v (.slice A4 p0.Hosts.length c5)], .row 88 3 l56.length es57, .box 83 [.row 1], .row 61 2 l59.length es60, .mp (mE Value.bool m62), .gone] ∧ GLe G55 Γ ∧ Els Γ l56 es57 ∧ Els Γ l59 es60 ∧ tree_bests_j2 k (loopN (fun _ _ _ => none) (tree_bests_s31 k p0) n46) l56 l59 m62 = some r) ?_ (fun hj63 => ?_)))
          · skip
            rintro _ _ G65 ⟨l56, l59, m62, es57, es60, rfl, rfl, hle64, h58, h61, H⟩
            unfold tree_bests_j2 at H
            have h3 := Rep.mono hle64 h3; have h6 := Rep.mono hle64 h6
            exact EX.fewer (hK45 n46 _ _ _ (Nat.lt_succ_self _) ⟨l56, l59, m62, es57, es60, rfl, rfl, (GLe.trans (GLe.trans hle42 hle54) hle64), h58, h61, H⟩) ⟨⟨_, rfl, rfl⟩, ⟨_, rfl, rfl⟩, ⟨_, rfl, rfl⟩, ⟨_, rfl, rfl⟩, trivial⟩ ⟨.inr rfl, .inr rfl, .inr rfl, .inr rfl, .inr rfl, trivial⟩ rfl rfl
          · skip
            refine E.block (E.seq (E.region (EL.run tabOk 1 rfl (EL.inl [1, 3, 6, 7] rfl rfl rfl rfl rfl rfl Try.func37 container_heap_Pop_enters rfl Try.ntmps37 rfl rfl (fun L Γ ks s => ∃ (vals66 : List Value) (l69 : (List tree_way)) (e72 : tree_way) (es70 : List Value), L = [.box 25 [.v (.int .i64 p0.Segs), .v (.slice A1 p0.Plans.length c2), .v (.slice A4 p0.Hosts.length c5)], .row 88 3 l69.length es70, .box 83 [.row 1], .row 61 2 l38.length es39, .mp (mE Value.bool m41), .gone, .sav [.p 0 0, .ip 81 2 0, .row 3, .mp 4] vals66] ∧ ks = [.p 0 0, .ip 81 2 0, .row 3, .mp 4] ∧ s = .v (.iface 88 (.agg #[.int .i64 e72.best.x0, .int .i64 e72.best.x1, .int .i64 e72.at_])) ∧ GLe G55 Γ ∧ Els Γ l69 es70 ∧ tree_bests_j18 k p0 l38 m41 (loopN (fun _ _ _ => none) (tree_bests_s31 k p0) n46) l69 e72 = some r) ?_ ?_))))
            · skip
              rintro _ G74 _ _ ⟨vals66, l69, e72, es70, rfl, rfl, rfl, hle73, h71, H⟩
              unfold tree_bests_j18 at H
              have h3 := Rep.mono hle73 h3; have h6 := Rep.mono hle73 h6; have h40 := Els.mono h40 hle73
              refine EL.assert tabOk rfl rfl rfl rfl rfl rfl (EL.run tabOk 2 rfl (EL.nil (EX.seq (E.seq (E.seq (E.region (EL.run tabOk 3 rfl (EL.lookup (enc := Value.bool) (m := m41) (z0 := false) tabOk rfl rfl rfl rfl rfl rfl rfl rfl (fun _ => rfl) (EL.nil (EX.seq (E.cond rfl H (fun hb H => ?_) (fun hb H => ?_))))))))))))
              · skip
                exact E.exit (EX.out (EX.hit (EX.fewer (hj63 _ _ _ ⟨l69, l38, m41, es70, es39, rfl, rfl, hle73, h71, h40, H⟩) ⟨⟨_, rfl, rfl⟩, ⟨_, rfl, rfl⟩, ⟨_, rfl, rfl⟩, ⟨_, rfl, rfl⟩, trivial⟩ ⟨.inr rfl, .inr rfl, .inr rfl, .inr rfl, .inr rfl, .inr rfl, trivial⟩ rfl rfl)))
              · skip
                refine E.skip (EX.seq (E.seq ?_))
                obtain ⟨y75, hy76, H⟩ := bind_some H
                obtain ⟨g77, g78, g79, g80⟩ := idx_some hy76; obtain ⟨u81, hj82, hu83⟩ := All2.get h40 g80
                obtain rfl : _ = _ := hu83
                obtain ⟨l84, hx85, H⟩ := bind_some H
                have h86 := upd_els hx85 h40 (show R G74 (⟨e72.best.x0, e72.best.x1⟩ : arr2_i64) (.agg #[.int .i64 e72.best.x0, .int .i64 e72.best.x1]) from rfl)
                refine E.fewer (env' := [(1, some (.p 0 0)), (3, some (.ip 81 2 0)), (6, some (.row 3)), (7, some (.mp 4)), (8, some (.p 7 0))]) (L' := [.box 25 [.v (.int .i64 p0.Segs), .v (.slice A1 p0.Plans.length c2), .v (.slice A4 p0.Hosts.length c5)], .row 88 3 l69.length es70, .box 83 [.row 1], .row 61 2 l38.length es39, .mp (mE Value.bool m41), .gone, .sav [.p 0 0, .ip 81 2 0, .row 3, .mp 4] vals66, .box 88 [.v (.int .i64 e72.best.x0), .v (.int .i64 e72.best.x1), .v (.int .i64 e72.at_)]]) (E.sub' ((E.draw mixed (fun (bs : List Bool) (env : Env) (L : List Ent) (Γ : Ghost) => match bs with | [b0', b1', b2', b3', b4', b5', b6', b7', b8', b9', b10'] =>  env = [(52, bif b0' then some (.mp 4) else none), (53, bif b1' then some (.p 7 2) else none), (54, bif b2' then some (.v (.int .i64 e72.at_)) else none), (55, bif b3' then some (.row 3) else none), (56, bif b4' then some (.p 7 2) else none), (57, bif b5' then some (.v (.int .i64 e72.at_)) else none), (58, bif b6' then some (.p 7 0) else none), (59, bif b7' then some (.v (.agg #[.int .i64 e72.best.x0, .int .i64 e72.best.x1])) else none), (60, bif b9' then some (.p 3 ((e72.at_ : Int).toNat * 2)) else none), (1, some (.p 0 0)), (3, some (.ip 81 2 0)), (6, some (.row 3)), (7, some (.mp 4)), (8, some (.p 7 0))] ∧ L = [.box 25 [.v (.int .i64 p0.Segs), .v (.slice A1 p0.Plans.length c2), .v (.slice A4 p0.Hosts.length c5)], .row 88 3 l69.length es70, .box 83 [.row 1], (bif b10' then .row 61 2 l84.length (es39.set (e72.at_ : Int).toNat (.agg #[.int .i64 e72.best.x0, .int .i64 e72.best.x1])) else .row 61 2 l38.length es39), (bif b8' then .mp (mE Value.bool (mset m41 e72.at_ true)) else .mp (mE Value.bool m41)), .gone, .sav [.p 0 0, .ip 81 2 0, .row 3, .mp 4] vals66, .box 88 [.v (.int .i64 e72.best.x0), .v (.int .i64 e72.best.x1), .v (.int .i64 e72.at_)]] ∧ GLe G74 Γ | _ => False) ⟨rfl, rfl, GLe.refl _⟩ rfl ?_ ?_)) ⟨rfl, rfl, rfl, rfl, rfl, rfl, rfl, rfl, rfl, rfl, rfl, rfl, rfl, rfl, trivial⟩) ⟨⟨_, rfl, rfl⟩, ⟨_, rfl, rfl⟩, ⟨_, rfl, rfl⟩, ⟨_, rfl, rfl⟩, ⟨_, rfl, rfl⟩, trivial⟩ ⟨.inr rfl, .inr rfl, .inr rfl, .inr rfl, .inr rfl, .inr rfl, .inr rfl, .inr rfl, trivial⟩ rfl rfl
                · refine ⟨?_, ?_, ?_, ?_, ?_, ?_, ?_, ?_, ?_, ?_, ?_, trivial⟩
                  · intro b0' b1' b2' b3' b4' b5' b6' b7' b8' b9' b10'
                    rintro ⟨⟩ ⟨⟩ ⟨⟩ ⟨⟩
                    rintro _ _ G88 ⟨rfl, rfl, hle87⟩ K hK
                    exact EL.step tabOk rfl (EL.nil (EX.sub' (hK _ _ _ ⟨rfl, rfl, hle87⟩) ⟨rfl, rfl, rfl, rfl, rfl, rfl, rfl, rfl, rfl, rfl, rfl, rfl, rfl, rfl, trivial⟩))
                  · intro b0' b1' b2' b3' b4' b5' b6' b7' b8' b9' b10'
                    rintro ⟨⟩ ⟨⟩ ⟨⟩ ⟨⟩ ⟨⟩
                    rintro _ _ G90 ⟨rfl, rfl, hle89⟩ K hK
                    exact EL.step tabOk rfl (EL.nil (EX.sub' (hK _ _ _ ⟨rfl, rfl, hle89⟩) ⟨rfl, rfl, rfl, rfl, rfl, rfl, rfl, rfl, rfl, rfl, rfl, rfl, rfl, rfl, trivial⟩))
                  · intro b0' b1' b2' b3' b4' b5' b6' b7' b8' b9' b10'
                    rintro ⟨⟩ ⟨⟩ ⟨⟩ ⟨⟩ ⟨⟩
                    rintro _ _ G92 ⟨rfl, rfl, hle91⟩ K hK
                    exact EL.step tabOk rfl (EL.nil (EX.sub' (hK _ _ _ ⟨rfl, rfl, hle91⟩) ⟨rfl, rfl, rfl, rfl, rfl, rfl, rfl, rfl, rfl, rfl, rfl, rfl, rfl, rfl, trivial⟩))
                  · intro b0' b1' b2' b3' b4' b5' b6' b7' b8' b9' b10'
                    rintro ⟨⟩ ⟨⟩ ⟨⟩
                    rintro _ _ G94 ⟨rfl, rfl, hle93⟩ K hK
                    exact EL.step tabOk rfl (EL.nil (EX.sub' (hK _ _ _ ⟨rfl, rfl, hle93⟩) ⟨rfl, rfl, rfl, rfl, rfl, rfl, rfl, rfl, rfl, rfl, rfl, rfl, rfl, rfl, trivial⟩))
                  · intro b0' b1' b2' b3' b4' b5' b6' b7' b8' b9' b10'
                    rintro ⟨⟩ ⟨⟩ ⟨⟩ ⟨⟩
                    rintro _ _ G96 ⟨rfl, rfl, hle95⟩ K hK
                    exact EL.step tabOk rfl (EL.nil (EX.sub' (hK _ _ _ ⟨rfl, rfl, hle95⟩) ⟨rfl, rfl, rfl, rfl, rfl, rfl, rfl, rfl, rfl, rfl, rfl, rfl, rfl, rfl, trivial⟩))
                  · intro b0' b1' b2' b3' b4' b5' b6' b7' b8' b9' b10'
                    rintro ⟨⟩ ⟨⟩ ⟨⟩ ⟨⟩
                    rintro _ _ G98 ⟨rfl, rfl, hle97⟩ K hK
                    exact EL.step tabOk rfl (EL.nil (EX.sub' (hK _ _ _ ⟨rfl, rfl, hle97⟩) ⟨rfl, rfl, rfl, rfl, rfl, rfl, rfl, rfl, rfl, rfl, rfl, rfl, rfl, rfl, trivial⟩))
                  · intro b0' b1' b2' b3' b4' b5' b6' b7' b8' b9' b10'
                    rintro ⟨⟩ ⟨⟩ ⟨⟩ ⟨⟩
                    rintro _ _ G100 ⟨rfl, rfl, hle99⟩ K hK
                    exact EL.step tabOk rfl (EL.nil (EX.sub' (hK _ _ _ ⟨rfl, rfl, hle99⟩) ⟨rfl, rfl, rfl, rfl, rfl, rfl, rfl, rfl, rfl, rfl, rfl, rfl, rfl, rfl, trivial⟩))
                  · intro b0' b1' b2' b3' b4' b5' b6' b7' b8' b9' b10'
                    rintro ⟨⟩ ⟨⟩ ⟨⟩ ⟨⟩
                    rintro _ _ G102 ⟨rfl, rfl, hle101⟩ K hK
                    exact EL.step tabOk rfl (EL.nil (EX.sub' (hK _ _ _ ⟨rfl, rfl, hle101⟩) ⟨rfl, rfl, rfl, rfl, rfl, rfl, rfl, rfl, rfl, rfl, rfl, rfl, rfl, rfl, trivial⟩))
                  · intro b0' b1' b2' b3' b4' b5' b6' b7' b8' b9' b10'
                    rintro ⟨⟩ ⟨⟩ ⟨⟩ ⟨⟩ ⟨⟩ ⟨⟩ ⟨⟩ ⟨⟩
                    rintro _ _ G104 ⟨rfl, rfl, hle103⟩ K hK
                    exact EL.mapUpdate (enc := Value.bool) (m := m41) (u := true) tabOk rfl rfl rfl rfl rfl rfl rfl rfl rfl rfl (EL.nil (EX.sub' (hK _ _ _ ⟨rfl, rfl, hle103⟩) ⟨rfl, rfl, rfl, rfl, rfl, rfl, rfl, rfl, rfl, rfl, rfl, rfl, rfl, rfl, trivial⟩))
                  · intro b0' b1' b2' b3' b4' b5' b6' b7' b8' b9' b10'
                    rintro ⟨⟩ ⟨⟩ ⟨⟩ ⟨⟩ ⟨⟩ ⟨⟩ ⟨⟩ ⟨⟩ ⟨⟩ ⟨⟩ ⟨⟩ ⟨⟩ ⟨⟩
                    rintro _ _ G106 ⟨rfl, rfl, hle105⟩ K hK
                    exact EL.indexRow g77 g79 tabOk rfl rfl rfl rfl rfl rfl rfl rfl (EL.nil (EX.sub' (hK _ _ _ ⟨rfl, rfl, hle105⟩) ⟨rfl, rfl, rfl, rfl, rfl, rfl, rfl, rfl, rfl, rfl, rfl, rfl, rfl, rfl, trivial⟩))
                  · intro b0' b1' b2' b3' b4' b5' b6' b7' b8' b9' b10'
                    rintro ⟨⟩ ⟨⟩ ⟨⟩ ⟨⟩ ⟨⟩ ⟨⟩ ⟨⟩ ⟨⟩ ⟨⟩ ⟨⟩ ⟨⟩ ⟨⟩ ⟨⟩
                    rintro _ _ G108 ⟨rfl, rfl, hle107⟩ K hK
                    have h40 := Els.mono h40 hle107
                    exact EL.updX hx85 h40 (show R _ (⟨e72.best.x0, e72.best.x1⟩ : arr2_i64) (.agg #[.int .i64 e72.best.x0, .int .i64 e72.best.x1]) from rfl) tabOk rfl rfl rfl rfl rfl rfl rfl rfl rfl rfl (EL.nil (EX.sub' (hK _ _ _ ⟨rfl, rfl, hle107⟩) ⟨rfl, rfl, rfl, rfl, rfl, rfl, rfl, rfl, rfl, rfl, rfl, rfl, rfl, rfl, trivial⟩))
                rintro _ _ G110 ⟨rfl, rfl, hle109⟩
                have h3 := Rep.mono hle109 h3
                have h6 := Rep.mono hle109 h6
                have h71 := Els.mono h71 hle109
                have h86 := Els.mono h86 hle109
                refine EX.seq (E.seq (E.region (EL.run tabOk 4 rfl ?_)))
                obtain ⟨y111, hy112, H⟩ := bind_some H
                refine EL.index hy112 h3 tabOk rfl rfl rfl rfl rfl rfl rfl rfl (fun b113 o114 u115 hu116 hc117 => ?_)
                obtain ⟨v121, rfl, h120⟩ := hu116
                obtain ⟨A118, c119, rfl, h120⟩ := Sl.open h120
                refine EL.run tabOk 1 rfl (EL.load (CellsAt.fld (j := 1) hc117 rfl rfl) tabOk rfl rfl rfl rfl rfl rfl (EL.run tabOk 2 rfl (EL.nil (EX.seq (E.join (fun env L Γ => ∃ (l122 : (List tree_way)) (es123 : List Value), env = [(1, some (.p 0 0)), (3, some (.ip 81 2 0)), (6, some (.row 3)), (7, some (.mp 4))] ∧ L = [.box 25 [.v (.int .i64 p0.Segs), .v (.slice A1 p0.Plans.length c2), .v (.slice A4 p0.Hosts.length c5)], .row 88 3 l122.length es123, .box 83 [.row 1], .row 61 2 l84.length (es39.set (e72.at_ : Int).toNat (.agg #[.int .i64 e72.best.x0, .int .i64 e72.best.x1])), .mp (mE Value.bool (mset m41 e72.at_ true)), .gone, .gone, .box 88 [.v (.int .i64 e72.best.x0), .v (.int .i64 e72.best.x1), .v (.int .i64 e72.at_)]] ∧ GLe G110 Γ ∧ Els Γ l122 es123 ∧ tree_bests_j3 k m41 (loopN (fun _ _ _ => none) (tree_bests_s31 k p0) n46) e72 l84 l122 = some r) ?_ (fun hj125 => ?_))))))
                · skip
                  rintro _ _ G127 ⟨l122, es123, rfl, rfl, hle126, h124, H⟩
                  unfold tree_bests_j3 at H
                  have h3 := Rep.mono hle126 h3; have h6 := Rep.mono hle126 h6; have h86 := Els.mono h86 hle126
                  exact EX.block (EX.fewer (hj63 _ _ _ ⟨l122, l84, mset m41 e72.at_ true, es123, (es39.set (e72.at_ : Int).toNat (.agg #[.int .i64 e72.best.x0, .int .i64 e72.best.x1])), rfl, rfl, (GLe.trans (GLe.trans hle73 hle109) hle126), h124, h86, H⟩) ⟨⟨_, rfl, rfl⟩, ⟨_, rfl, rfl⟩, ⟨_, rfl, rfl⟩, ⟨_, rfl, rfl⟩, trivial⟩ ⟨.inr rfl, .inr rfl, .inr rfl, .inr rfl, .inr rfl, .inr rfl, trivial⟩ rfl rfl)
                · skip
                  refine E.block (E.fewer (E.loop (fun n env L Γ => ∃ (i128 : Int) (l129 : (List tree_way)) (es130 : List Value), env = [(1, some (.p 0 0)), (3, some (.ip 81 2 0)), (6, some (.row 3)), (7, some (.mp 4)), (8, some (.p 7 0)), (67, some (.v (.slice A118 y111.Ports.length c119))), (68, some (.v (.int .i64 (y111.Ports.length : Int)))), (69, some (.v (.int .i64 i128)))] ∧ L = [.box 25 [.v (.int .i64 p0.Segs), .v (.slice A1 p0.Plans.length c2), .v (.slice A4 p0.Hosts.length c5)], .row 88 3 l129.length es130, .box 83 [.row 1], .row 61 2 l84.length (es39.set (e72.at_ : Int).toNat (.agg #[.int .i64 e72.best.x0, .int .i64 e72.best.x1])), .mp (mE Value.bool (mset m41 e72.at_ true)), .gone, .gone, .box 88 [.v (.int .i64 e72.best.x0), .v (.int .i64 e72.best.x1), .v (.int .i64 e72.at_)]] ∧ GLe G110 Γ ∧ Els Γ l129 es130 ∧ loopN (fun _ _ => none) (tree_bests_s17 k p0 m41 (loopN (fun _ _ _ => none) (tree_bests_s31 k p0) n46) e72 l84 y111) n i128 l129 = some r) k ⟨0, l69, es70, rfl, rfl, GLe.refl _, h71, H⟩ ?_) ⟨⟨_, rfl, rfl⟩, ⟨_, rfl, rfl⟩, ⟨_, rfl, rfl⟩, ⟨_, rfl, rfl⟩, ⟨_, rfl, rfl⟩, ⟨_, rfl, rfl⟩, ⟨_, rfl, rfl⟩, ⟨_, rfl, rfl⟩, trivial⟩ ⟨.inr rfl, .inr rfl, .inr rfl, .inr rfl, .inr rfl, .inr rfl, .inl trivial, .inr rfl, trivial⟩ rfl rfl)
                  rintro n136 _ _ G134 ⟨i128, l129, es130, rfl, rfl, hle132, h131, H⟩ K hK135
                  obtain _ | n136 := n136
                  · exact none_ne H
                  rw [loopN] at H; unfold tree_bests_s17 at H
                  have h120 := Rep.mono hle132 h120; have h3 := Rep.mono hle132 h3; have h6 := Rep.mono hle132 h6; have h86 := Els.mono h86 hle132
                  refine E.seq (E.region (EL.run tabOk 1 rfl (EL.nil (EX.seq (E.seq (E.cond rfl H (fun hb H => ?_) (fun hb H => ?_)))))))
                  · skip
                    refine E.skip (EX.seq (E.seq (E.block (E.seq (E.region ?_)))))
                    obtain ⟨y137, hy138, H⟩ := bind_some H
                    refine EL.index hy138 h120 tabOk rfl rfl rfl rfl rfl rfl rfl rfl (fun b139 o140 u141 hu142 hc143 => ?_)
                    obtain rfl : _ = _ := hu142
                    refine EL.load hc143 tabOk rfl rfl rfl rfl rfl rfl (EL.run tabOk 2 rfl (EL.nil (EX.seq (E.seq (E.region (EL.run tabOk 3 rfl ?_))))))
                    obtain ⟨x144, hx145, H⟩ := bind_some H
                    refine EL.call rfl rfl rfl rfl lan_On_enters (fun w hw => lan_On_ok hx145 hw ⟨_, _, rfl, h3, h6⟩) (fun v148 G147 hle146 hv149 => ?_)
                    have h120 := Rep.mono hle146 h120; have h3 := Rep.mono hle146 h3; have h6 := Rep.mono hle146 h6; have h131 := Els.mono h131 hle146; have h86 := Els.mono h86 hle146
                    obtain ⟨u150, u151, u152, rfl, h153, h154, h155⟩ := hv149
                    obtain ⟨A156, c157, rfl, h158⟩ := Sl.open h153
                    obtain ⟨A159, c160, rfl, h161⟩ := Sl.open h154
                    obtain rfl : _ = _ := h155
                    refine EL.run tabOk 7 rfl (EL.nil (EX.seq (E.seq (E.region (EL.run tabOk 3 rfl (EL.nil (EX.seq (E.join (fun env L Γ => ∃ (l162 : (List tree_way)) (es163 : List Value), env = [(1, some (.p 0 0)), (3, some (.ip 81 2 0)), (6, some (.row 3)), (7, some (.mp 4)), (8, some (.p 7 0)), (67, some (.v (.slice A118 y111.Ports.length c119))), (68, some (.v (.int .i64 (y111.Ports.length : Int)))), (69, some (.v (.int .i64 i128)))] ∧ L = [.box 25 [.v (.int .i64 p0.Segs), .v (.slice A1 p0.Plans.length c2), .v (.slice A4 p0.Hosts.length c5)], .row 88 3 l162.length es163, .box 83 [.row 1], .row 61 2 l84.length (es39.set (e72.at_ : Int).toNat (.agg #[.int .i64 e72.best.x0, .int .i64 e72.best.x1])), .mp (mE Value.bool (mset m41 e72.at_ true)), .gone, .gone, .box 88 [.v (.int .i64 e72.best.x0), .v (.int .i64 e72.best.x1), .v (.int .i64 e72.at_)], .box 35 [.v (.int .i64 y137.Seg), .v (.int .i64 y137.Cost), .v (.bool y137.Up)]] ∧ GLe G147 Γ ∧ Els Γ l162 es163 ∧ tree_bests_j4 k i128 (loopN (fun _ _ => none) (tree_bests_s17 k p0 m41 (loopN (fun _ _ _ => none) (tree_bests_s31 k p0) n46) e72 l84 y111) n136) l162 = some r) ?_ (fun hj165 => ?_)))))))))
                    · skip
                      rintro _ _ G167 ⟨l162, es163, rfl, rfl, hle166, h164, H⟩
                      unfold tree_bests_j4 at H
                      have h120 := Rep.mono hle166 h120; have h3 := Rep.mono hle166 h3; have h6 := Rep.mono hle166 h6; have h86 := Els.mono h86 hle166
                      exact EX.block (EX.seq (E.region (EL.run tabOk 2 rfl (EL.nil (EX.fewer (hK135 n136 _ _ _ (Nat.lt_succ_self _) ⟨wr (i128 + 1), l162, es163, rfl, rfl, (GLe.trans (GLe.trans hle132 hle146) hle166), h164, H⟩) ⟨⟨_, rfl, rfl⟩, ⟨_, rfl, rfl⟩, ⟨_, rfl, rfl⟩, ⟨_, rfl, rfl⟩, ⟨_, rfl, rfl⟩, ⟨_, rfl, rfl⟩, ⟨_, rfl, rfl⟩, ⟨_, rfl, rfl⟩, trivial⟩ ⟨.inr rfl, .inr rfl, .inr rfl, .inr rfl, .inr rfl, .inr rfl, .inr rfl, .inr rfl, trivial⟩ rfl rfl)))))
                    · skip
                      refine E.block (E.fewer (E.loop (fun n env L Γ => ∃ (i168 : Int) (l169 : (List tree_way)) (es170 : List Value), env = [(1, some (.p 0 0)), (3, some (.ip 81 2 0)), (6, some (.row 3)), (7, some (.mp 4)), (8, some (.p 7 0)), (10, some (.p 8 0)), (67, some (.v (.slice A118 y111.Ports.length c119))), (68, some (.v (.int .i64 (y111.Ports.length : Int)))), (69, some (.v (.int .i64 i128))), (81, some (.v (.slice A159 x144.2.1.length c160))), (82, some (.v (.int .i64 (x144.2.1.length : Int)))), (83, some (.v (.int .i64 i168)))] ∧ L = [.box 25 [.v (.int .i64 p0.Segs), .v (.slice A1 p0.Plans.length c2), .v (.slice A4 p0.Hosts.length c5)], .row 88 3 l169.length es170, .box 83 [.row 1], .row 61 2 l84.length (es39.set (e72.at_ : Int).toNat (.agg #[.int .i64 e72.best.x0, .int .i64 e72.best.x1])), .mp (mE Value.bool (mset m41 e72.at_ true)), .gone, .gone, .box 88 [.v (.int .i64 e72.best.x0), .v (.int .i64 e72.best.x1), .v (.int .i64 e72.at_)], .box 35 [.v (.int .i64 y137.Seg), .v (.int .i64 y137.Cost), .v (.bool y137.Up)]] ∧ GLe G147 Γ ∧ Els Γ l169 es170 ∧ loopN (fun _ _ => none) (tree_bests_s16 k p0 m41 e72 i128 (loopN (fun _ _ => none) (tree_bests_s17 k p0 m41 (loopN (fun _ _ _ => none) (tree_bests_s31 k p0) n46) e72 l84 y111) n136) y137 x144) n i168 l169 = some r) k ⟨0, l129, es130, rfl, rfl, GLe.refl _, h131, H⟩ ?_) ⟨⟨_, rfl, rfl⟩, ⟨_, rfl, rfl⟩, ⟨_, rfl, rfl⟩, ⟨_, rfl, rfl⟩, ⟨_, rfl, rfl⟩, ⟨_, rfl, rfl⟩, ⟨_, rfl, rfl⟩, ⟨_, rfl, rfl⟩, ⟨_, rfl, rfl⟩, ⟨_, rfl, rfl⟩, ⟨_, rfl, rfl⟩, ⟨_, rfl, rfl⟩, trivial⟩ ⟨.inr rfl, .inr rfl, .inr rfl, .inr rfl, .inr rfl, .inr rfl, .inr rfl, .inr rfl, .inr rfl, trivial⟩ rfl rfl)
                      rintro n176 _ _ G174 ⟨i168, l169, es170, rfl, rfl, hle172, h171, H⟩ K hK175
                      obtain _ | n176 := n176
                      · exact none_ne H
                      rw [loopN] at H; unfold tree_bests_s16 at H
                      have h120 := Rep.mono hle172 h120; have h161 := Rep.mono hle172 h161; have h3 := Rep.mono hle172 h3; have h6 := Rep.mono hle172 h6; have h86 := Els.mono h86 hle172
                      refine E.seq (E.region (EL.run tabOk 1 rfl (EL.nil (EX.seq (E.seq (E.cond rfl H (fun hb H => ?_) (fun hb H => ?_)))))))
                      · skip
                        refine E.skip (EX.seq (E.seq (E.block (E.seq (E.region ?_)))))
                        obtain ⟨y177, hy178, H⟩ := bind_some H
                        refine EL.index hy178 h161 tabOk rfl rfl rfl rfl rfl rfl rfl rfl (fun b179 o180 u181 hu182 hc183 => ?_)
                        obtain rfl : _ = _ := hu182
                        refine EL.load hc183 tabOk rfl rfl rfl rfl rfl rfl (EL.run tabOk 2 rfl (EL.nil (EX.seq (E.seq (E.join (fun env L Γ => ∃ (b184 : Bool), env = [(1, some (.p 0 0)), (3, some (.ip 81 2 0)), (6, some (.row 3)), (7, some (.mp 4)), (8, some (.p 7 0)), (10, some (.p 8 0)), (15, some (.p 9 0)), (67, some (.v (.slice A118 y111.Ports.length c119))), (68, some (.v (.int .i64 (y111.Ports.length : Int)))), (69, some (.v (.int .i64 i128))), (81, some (.v (.slice A159 x144.2.1.length c160))), (82, some (.v (.int .i64 (x144.2.1.length : Int)))), (83, some (.v (.int .i64 i168))), (95, some (.v (.bool b184)))] ∧ L = [.box 25 [.v (.int .i64 p0.Segs), .v (.slice A1 p0.Plans.length c2), .v (.slice A4 p0.Hosts.length c5)], .row 88 3 l169.length es170, .box 83 [.row 1], .row 61 2 l84.length (es39.set (e72.at_ : Int).toNat (.agg #[.int .i64 e72.best.x0, .int .i64 e72.best.x1])), .mp (mE Value.bool (mset m41 e72.at_ true)), .gone, .gone, .box 88 [.v (.int .i64 e72.best.x0), .v (.int .i64 e72.best.x1), .v (.int .i64 e72.at_)], .box 35 [.v (.int .i64 y137.Seg), .v (.int .i64 y137.Cost), .v (.bool y137.Up)], .box 41 [.v (.int .i64 y177.x0), .v (.int .i64 y177.x1)]] ∧ GLe G174 Γ ∧ tree_bests_j15 k p0 e72 i168 l169 (loopN (fun _ _ => none) (tree_bests_s16 k p0 m41 e72 i128 (loopN (fun _ _ => none) (tree_bests_s17 k p0 m41 (loopN (fun _ _ _ => none) (tree_bests_s31 k p0) n46) e72 l84 y111) n136) y137 x144) n176) y177 b184 = some r) ?_ (fun hj185 => ?_))))))
                        · skip
                          rintro _ _ G187 ⟨b184, rfl, rfl, hle186, H⟩
                          unfold tree_bests_j15 at H
                          have h120 := Rep.mono hle186 h120; have h161 := Rep.mono hle186 h161; have h3 := Rep.mono hle186 h3; have h6 := Rep.mono hle186 h6; have h171 := Els.mono h171 hle186; have h86 := Els.mono h86 hle186
                          refine EX.seq (E.join (fun env L Γ => ∃ (l188 : (List tree_way)) (es189 : List Value), env = [(1, some (.p 0 0)), (3, some (.ip 81 2 0)), (6, some (.row 3)), (7, some (.mp 4)), (8, some (.p 7 0)), (10, some (.p 8 0)), (67, some (.v (.slice A118 y111.Ports.length c119))), (68, some (.v (.int .i64 (y111.Ports.length : Int)))), (69, some (.v (.int .i64 i128))), (81, some (.v (.slice A159 x144.2.1.length c160))), (82, some (.v (.int .i64 (x144.2.1.length : Int)))), (83, some (.v (.int .i64 i168)))] ∧ L = [.box 25 [.v (.int .i64 p0.Segs), .v (.slice A1 p0.Plans.length c2), .v (.slice A4 p0.Hosts.length c5)], .row 88 3 l188.length es189, .box 83 [.row 1], .row 61 2 l84.length (es39.set (e72.at_ : Int).toNat (.agg #[.int .i64 e72.best.x0, .int .i64 e72.best.x1])), .mp (mE Value.bool (mset m41 e72.at_ true)), .gone, .gone, .box 88 [.v (.int .i64 e72.best.x0), .v (.int .i64 e72.best.x1), .v (.int .i64 e72.at_)], .box 35 [.v (.int .i64 y137.Seg), .v (.int .i64 y137.Cost), .v (.bool y137.Up)], .box 41 [.v (.int .i64 y177.x0), .v (.int .i64 y177.x1)]] ∧ GLe G187 Γ ∧ Els Γ l188 es189 ∧ tree_bests_j5 k i168 (loopN (fun _ _ => none) (tree_bests_s16 k p0 m41 e72 i128 (loopN (fun _ _ => none) (tree_bests_s17 k p0 m41 (loopN (fun _ _ _ => none) (tree_bests_s31 k p0) n46) e72 l84 y111) n136) y137 x144) n176) l188 = some r) ?_ (fun hj191 => ?_))
                          · skip
                            rintro _ _ G193 ⟨l188, es189, rfl, rfl, hle192, h190, H⟩
                            unfold tree_bests_j5 at H
                            have h120 := Rep.mono hle192 h120; have h161 := Rep.mono hle192 h161; have h3 := Rep.mono hle192 h3; have h6 := Rep.mono hle192 h6; have h86 := Els.mono h86 hle192
                            exact EX.block (EX.seq (E.region (EL.run tabOk 2 rfl (EL.nil (EX.fewer (hK175 n176 _ _ _ (Nat.lt_succ_self _) ⟨wr (i168 + 1), l188, es189, rfl, rfl, (GLe.trans (GLe.trans hle172 hle186) hle192), h190, H⟩) ⟨⟨_, rfl, rfl⟩, ⟨_, rfl, rfl⟩, ⟨_, rfl, rfl⟩, ⟨_, rfl, rfl⟩, ⟨_, rfl, rfl⟩, ⟨_, rfl, rfl⟩, ⟨_, rfl, rfl⟩, ⟨_, rfl, rfl⟩, ⟨_, rfl, rfl⟩, ⟨_, rfl, rfl⟩, ⟨_, rfl, rfl⟩, ⟨_, rfl, rfl⟩, trivial⟩ ⟨.inr rfl, .inr rfl, .inr rfl, .inr rfl, .inr rfl, .inr rfl, .inr rfl, .inr rfl, .inr rfl, trivial⟩ rfl rfl)))))
                          · skip
                            refine E.cond rfl H (fun hb H => ?_) (fun hb H => ?_)
                            · skip
                              refine E.seq ?_
                              obtain ⟨y194, hy195, H⟩ := bind_some H; obtain ⟨g203, g204, g205, g206⟩ := idx_some hy195; obtain ⟨b196, o197, u198, hA199, hn202, hu200, hc201⟩ := idx_at hy195 h3
                              obtain ⟨v210, rfl, h209⟩ := hu200
                              obtain ⟨A207, c208, rfl, h209⟩ := Sl.open h209
                              obtain ⟨y211, hy212, H⟩ := bind_some H; obtain ⟨g220, g221, g222, g223⟩ := idx_some hy212; obtain ⟨b213, o214, u215, hA216, hn219, hu217, hc218⟩ := idx_at hy212 h209
                              obtain rfl : _ = _ := hu217
                              refine E.fewer (env' := [(1, some (.p 0 0)), (3, some (.ip 81 2 0)), (6, some (.row 3)), (7, some (.mp 4)), (8, some (.p 7 0)), (10, some (.p 8 0)), (15, some (.p 9 0)), (67, some (.v (.slice A118 y111.Ports.length c119))), (68, some (.v (.int .i64 (y111.Ports.length : Int)))), (69, some (.v (.int .i64 i128))), (81, some (.v (.slice A159 x144.2.1.length c160))), (82, some (.v (.int .i64 (x144.2.1.length : Int)))), (83, some (.v (.int .i64 i168)))]) (L' := [.box 25 [.v (.int .i64 p0.Segs), .v (.slice A1 p0.Plans.length c2), .v (.slice A4 p0.Hosts.length c5)], .row 88 3 l169.length es170, .box 83 [.row 1], .row 61 2 l84.length (es39.set (e72.at_ : Int).toNat (.agg #[.int .i64 e72.best.x0, .int .i64 e72.best.x1])), .mp (mE Value.bool (mset m41 e72.at_ true)), .gone, .gone, .box 88 [.v (.int .i64 e72.best.x0), .v (.int .i64 e72.best.x1), .v (.int .i64 e72.at_)], .box 35 [.v (.int .i64 y137.Seg), .v (.int .i64 y137.Cost), .v (.bool y137.Up)], .box 41 [.v (.int .i64 y177.x0), .v (.int .i64 y177.x1)]]) (E.sub' ((E.draw mixed (fun (bs : List Bool) (env : Env) (L : List Ent) (Γ : Ghost) => match bs with | [b0', b1', b2', b3', b4', b5', b6', b7', b8', b9', b10', b11', b12'] =>  env = [(96, bif b0' then some (.p 0 1) else none), (97, bif b1' then some (.v (.slice A1 p0.Plans.length c2)) else none), (98, bif b2' then some (.p 9 0) else none), (99, bif b3' then some (.v (.int .i64 y177.x0)) else none), (100, bif b4' then some (.v (.pointer (some ⟨b196, o197 + (y177.x0 : Int).toNat * 2, none⟩))) else none), (101, bif b5' then some (.v (.pointer (some ⟨b196, o197 + (y177.x0 : Int).toNat * 2 + 1, none⟩))) else none), (102, bif b6' then some (.v (.slice A207 y194.Ports.length c208)) else none), (103, bif b7' then some (.p 9 1) else none), (104, bif b8' then some (.v (.int .i64 y177.x1)) else none), (105, bif b9' then some (.v (.pointer (some ⟨b213, o214 + (y177.x1 : Int).toNat * 3, none⟩))) else none), (106, bif b10' then some (.v (.pointer (some ⟨b213, o214 + (y177.x1 : Int).toNat * 3 + 1, none⟩))) else none), (107, bif b11' then some (.v (.int .i64 y211.Cost)) else none), (16, bif b12' then some (.v (.int .i64 y211.Cost)) else none), (1, some (.p 0 0)), (3, some (.ip 81 2 0)), (6, some (.row 3)), (7, some (.mp 4)), (8, some (.p 7 0)), (10, some (.p 8 0)), (15, some (.p 9 0)), (67, some (.v (.slice A118 y111.Ports.length c119))), (68, some (.v (.int .i64 (y111.Ports.length : Int)))), (69, some (.v (.int .i64 i128))), (81, some (.v (.slice A159 x144.2.1.length c160))), (82, some (.v (.int .i64 (x144.2.1.length : Int)))), (83, some (.v (.int .i64 i168)))] ∧ L = [.box 25 [.v (.int .i64 p0.Segs), .v (.slice A1 p0.Plans.length c2), .v (.slice A4 p0.Hosts.length c5)], .row 88 3 l169.length es170, .box 83 [.row 1], .row 61 2 l84.length (es39.set (e72.at_ : Int).toNat (.agg #[.int .i64 e72.best.x0, .int .i64 e72.best.x1])), .mp (mE Value.bool (mset m41 e72.at_ true)), .gone, .gone, .box 88 [.v (.int .i64 e72.best.x0), .v (.int .i64 e72.best.x1), .v (.int .i64 e72.at_)], .box 35 [.v (.int .i64 y137.Seg), .v (.int .i64 y137.Cost), .v (.bool y137.Up)], .box 41 [.v (.int .i64 y177.x0), .v (.int .i64 y177.x1)]] ∧ GLe G187 Γ | _ => False) ⟨rfl, rfl, GLe.refl _⟩ rfl ?_ ?_)) ⟨rfl, rfl, rfl, rfl, rfl, rfl, rfl, rfl, rfl, rfl, rfl, rfl, rfl, rfl, rfl, rfl, rfl, rfl, rfl, rfl, rfl, rfl, rfl, rfl, rfl, rfl, trivial⟩) ⟨⟨_, rfl, rfl⟩, ⟨_, rfl, rfl⟩, ⟨_, rfl, rfl⟩, ⟨_, rfl, rfl⟩, ⟨_, rfl, rfl⟩, ⟨_, rfl, rfl⟩, ⟨_, rfl, rfl⟩, ⟨_, rfl, rfl⟩, ⟨_, rfl, rfl⟩, ⟨_, rfl, rfl⟩, ⟨_, rfl, rfl⟩, ⟨_, rfl, rfl⟩, ⟨_, rfl, rfl⟩, trivial⟩ ⟨.inr rfl, .inr rfl, .inr rfl, .inr rfl, .inr rfl, .inr rfl, .inr rfl, .inr rfl, .inr rfl, .inr rfl, trivial⟩ rfl rfl
                              · refine ⟨?_, ?_, ?_, ?_, ?_, ?_, ?_, ?_, ?_, ?_, ?_, ?_, ?_, trivial⟩
                                · intro b0' b1' b2' b3' b4' b5' b6' b7' b8' b9' b10' b11' b12'
                                  rintro ⟨⟩ ⟨⟩ ⟨⟩
                                  rintro _ _ G225 ⟨rfl, rfl, hle224⟩ K hK
                                  have h3 := Rep.mono hle224 h3
                                  have h6 := Rep.mono hle224 h6
                                  exact EL.step tabOk rfl (EL.nil (EX.sub' (hK _ _ _ ⟨rfl, rfl, hle224⟩) ⟨rfl, rfl, rfl, rfl, rfl, rfl, rfl, rfl, rfl, rfl, rfl, rfl, rfl, rfl, rfl, rfl, rfl, rfl, rfl, rfl, rfl, rfl, rfl, rfl, rfl, rfl, trivial⟩))
                                · intro b0' b1' b2' b3' b4' b5' b6' b7' b8' b9' b10' b11' b12'
                                  rintro ⟨⟩ ⟨⟩ ⟨⟩ ⟨⟩
                                  rintro _ _ G227 ⟨rfl, rfl, hle226⟩ K hK
                                  have h3 := Rep.mono hle226 h3
                                  have h6 := Rep.mono hle226 h6
                                  exact EL.step tabOk rfl (EL.nil (EX.sub' (hK _ _ _ ⟨rfl, rfl, hle226⟩) ⟨rfl, rfl, rfl, rfl, rfl, rfl, rfl, rfl, rfl, rfl, rfl, rfl, rfl, rfl, rfl, rfl, rfl, rfl, rfl, rfl, rfl, rfl, rfl, rfl, rfl, rfl, trivial⟩))
                                · intro b0' b1' b2' b3' b4' b5' b6' b7' b8' b9' b10' b11' b12'
                                  rintro ⟨⟩ ⟨⟩ ⟨⟩
                                  rintro _ _ G229 ⟨rfl, rfl, hle228⟩ K hK
                                  exact EL.step tabOk rfl (EL.nil (EX.sub' (hK _ _ _ ⟨rfl, rfl, hle228⟩) ⟨rfl, rfl, rfl, rfl, rfl, rfl, rfl, rfl, rfl, rfl, rfl, rfl, rfl, rfl, rfl, rfl, rfl, rfl, rfl, rfl, rfl, rfl, rfl, rfl, rfl, rfl, trivial⟩))
                                · intro b0' b1' b2' b3' b4' b5' b6' b7' b8' b9' b10' b11' b12'
                                  rintro ⟨⟩ ⟨⟩ ⟨⟩ ⟨⟩
                                  rintro _ _ G231 ⟨rfl, rfl, hle230⟩ K hK
                                  exact EL.step tabOk rfl (EL.nil (EX.sub' (hK _ _ _ ⟨rfl, rfl, hle230⟩) ⟨rfl, rfl, rfl, rfl, rfl, rfl, rfl, rfl, rfl, rfl, rfl, rfl, rfl, rfl, rfl, rfl, rfl, rfl, rfl, rfl, rfl, rfl, rfl, rfl, rfl, rfl, trivial⟩))
                                · intro b0' b1' b2' b3' b4' b5' b6' b7' b8' b9' b10' b11' b12'
                                  rintro ⟨⟩ ⟨⟩ ⟨⟩ ⟨⟩ ⟨⟩
                                  rintro _ _ G233 ⟨rfl, rfl, hle232⟩ K hK
                                  have h3 := Rep.mono hle232 h3
                                  exact EL.indexAt (b := b196) (o' := o197) (n := p0.Plans.length) (c := c2) g203 g205 tabOk rfl rfl rfl (by rw [← hA199]; rfl) rfl rfl rfl (EL.nil (EX.sub' (hK _ _ _ ⟨rfl, rfl, hle232⟩) ⟨rfl, rfl, rfl, rfl, rfl, rfl, rfl, rfl, rfl, rfl, rfl, rfl, rfl, rfl, rfl, rfl, rfl, rfl, rfl, rfl, rfl, rfl, rfl, rfl, rfl, rfl, trivial⟩))
                                · intro b0' b1' b2' b3' b4' b5' b6' b7' b8' b9' b10' b11' b12'
                                  rintro ⟨⟩ ⟨⟩ ⟨⟩ ⟨⟩
                                  rintro _ _ G235 ⟨rfl, rfl, hle234⟩ K hK
                                  have hc201 := CellsAt.mono hle234 hc201
                                  have h209 := Rep.mono hle234 h209
                                  exact EL.step tabOk rfl (EL.nil (EX.sub' (hK _ _ _ ⟨rfl, rfl, hle234⟩) ⟨rfl, rfl, rfl, rfl, rfl, rfl, rfl, rfl, rfl, rfl, rfl, rfl, rfl, rfl, rfl, rfl, rfl, rfl, rfl, rfl, rfl, rfl, rfl, rfl, rfl, rfl, trivial⟩))
                                · intro b0' b1' b2' b3' b4' b5' b6' b7' b8' b9' b10' b11' b12'
                                  rintro ⟨⟩ ⟨⟩ ⟨⟩ ⟨⟩
                                  rintro _ _ G237 ⟨rfl, rfl, hle236⟩ K hK
                                  have hc201 := CellsAt.mono hle236 hc201
                                  have h209 := Rep.mono hle236 h209
                                  exact EL.load (CellsAt.fld (j := 1) hc201 rfl rfl) tabOk rfl rfl rfl rfl rfl rfl (EL.nil (EX.sub' (hK _ _ _ ⟨rfl, rfl, hle236⟩) ⟨rfl, rfl, rfl, rfl, rfl, rfl, rfl, rfl, rfl, rfl, rfl, rfl, rfl, rfl, rfl, rfl, rfl, rfl, rfl, rfl, rfl, rfl, rfl, rfl, rfl, rfl, trivial⟩))
                                · intro b0' b1' b2' b3' b4' b5' b6' b7' b8' b9' b10' b11' b12'
                                  rintro ⟨⟩ ⟨⟩ ⟨⟩
                                  rintro _ _ G239 ⟨rfl, rfl, hle238⟩ K hK
                                  exact EL.step tabOk rfl (EL.nil (EX.sub' (hK _ _ _ ⟨rfl, rfl, hle238⟩) ⟨rfl, rfl, rfl, rfl, rfl, rfl, rfl, rfl, rfl, rfl, rfl, rfl, rfl, rfl, rfl, rfl, rfl, rfl, rfl, rfl, rfl, rfl, rfl, rfl, rfl, rfl, trivial⟩))
                                · intro b0' b1' b2' b3' b4' b5' b6' b7' b8' b9' b10' b11' b12'
                                  rintro ⟨⟩ ⟨⟩ ⟨⟩ ⟨⟩
                                  rintro _ _ G241 ⟨rfl, rfl, hle240⟩ K hK
                                  exact EL.step tabOk rfl (EL.nil (EX.sub' (hK _ _ _ ⟨rfl, rfl, hle240⟩) ⟨rfl, rfl, rfl, rfl, rfl, rfl, rfl, rfl, rfl, rfl, rfl, rfl, rfl, rfl, rfl, rfl, rfl, rfl, rfl, rfl, rfl, rfl, rfl, rfl, rfl, rfl, trivial⟩))
                                · intro b0' b1' b2' b3' b4' b5' b6' b7' b8' b9' b10' b11' b12'
                                  rintro ⟨⟩ ⟨⟩ ⟨⟩ ⟨⟩ ⟨⟩
                                  rintro _ _ G243 ⟨rfl, rfl, hle242⟩ K hK
                                  have h209 := Rep.mono hle242 h209
                                  exact EL.indexAt (b := b213) (o' := o214) (n := y194.Ports.length) (c := c208) g220 g222 tabOk rfl rfl rfl (by rw [← hA216]; rfl) rfl rfl rfl (EL.nil (EX.sub' (hK _ _ _ ⟨rfl, rfl, hle242⟩) ⟨rfl, rfl, rfl, rfl, rfl, rfl, rfl, rfl, rfl, rfl, rfl, rfl, rfl, rfl, rfl, rfl, rfl, rfl, rfl, rfl, rfl, rfl, rfl, rfl, rfl, rfl, trivial⟩))
                                · intro b0' b1' b2' b3' b4' b5' b6' b7' b8' b9' b10' b11' b12'
                                  rintro ⟨⟩ ⟨⟩ ⟨⟩ ⟨⟩
                                  rintro _ _ G245 ⟨rfl, rfl, hle244⟩ K hK
                                  have hc218 := CellsAt.mono hle244 hc218
                                  exact EL.step tabOk rfl (EL.nil (EX.sub' (hK _ _ _ ⟨rfl, rfl, hle244⟩) ⟨rfl, rfl, rfl, rfl, rfl, rfl, rfl, rfl, rfl, rfl, rfl, rfl, rfl, rfl, rfl, rfl, rfl, rfl, rfl, rfl, rfl, rfl, rfl, rfl, rfl, rfl, trivial⟩))
                                · intro b0' b1' b2' b3' b4' b5' b6' b7' b8' b9' b10' b11' b12'
                                  rintro ⟨⟩ ⟨⟩ ⟨⟩
                                  rintro _ _ G247 ⟨rfl, rfl, hle246⟩ K hK
                                  have hc218 := CellsAt.mono hle246 hc218
                                  exact EL.load (CellsAt.fld (j := 1) hc218 rfl rfl) tabOk rfl rfl rfl rfl rfl rfl (EL.nil (EX.sub' (hK _ _ _ ⟨rfl, rfl, hle246⟩) ⟨rfl, rfl, rfl, rfl, rfl, rfl, rfl, rfl, rfl, rfl, rfl, rfl, rfl, rfl, rfl, rfl, rfl, rfl, rfl, rfl, rfl, rfl, rfl, rfl, rfl, rfl, trivial⟩))
                                · intro b0' b1' b2' b3' b4' b5' b6' b7' b8' b9' b10' b11' b12'
                                  rintro ⟨⟩ ⟨⟩ ⟨⟩ ⟨⟩ ⟨⟩ ⟨⟩ ⟨⟩ ⟨⟩ ⟨⟩ ⟨⟩ ⟨⟩ ⟨⟩ ⟨⟩ ⟨⟩
                                  rintro _ _ G249 ⟨rfl, rfl, hle248⟩ K hK
                                  exact EL.step tabOk rfl (EL.nil (EX.sub' (hK _ _ _ ⟨rfl, rfl, hle248⟩) ⟨rfl, rfl, rfl, rfl, rfl, rfl, rfl, rfl, rfl, rfl, rfl, rfl, rfl, rfl, rfl, rfl, rfl, rfl, rfl, rfl, rfl, rfl, rfl, rfl, rfl, rfl, trivial⟩))
                              rintro _ _ G251 ⟨rfl, rfl, hle250⟩
                              have h120 := Rep.mono hle250 h120
                              have h161 := Rep.mono hle250 h161
                              have h3 := Rep.mono hle250 h3
                              have h6 := Rep.mono hle250 h6
                              have h171 := Els.mono h171 hle250
                              have h86 := Els.mono h86 hle250
                              refine EX.seq (E.region (EL.run tabOk 14 rfl (EL.inl [1, 3, 6, 7, 8, 10, 67, 68, 69, 81, 82, 83] rfl rfl rfl rfl rfl rfl Try.func36 container_heap_Push_enters rfl Try.ntmps36 rfl rfl (fun L Γ ks s => ∃ (vals252 : List Value) (l255 : (List tree_way)) (es256 : List Value), L = [.box 25 [.v (.int .i64 p0.Segs), .v (.slice A1 p0.Plans.length c2), .v (.slice A4 p0.Hosts.length c5)], .row 88 3 l255.length es256, .box 83 [.row 1], .row 61 2 l84.length (es39.set (e72.at_ : Int).toNat (.agg #[.int .i64 e72.best.x0, .int .i64 e72.best.x1])), .mp (mE Value.bool (mset m41 e72.at_ true)), .gone, .gone, .box 88 [.v (.int .i64 e72.best.x0), .v (.int .i64 e72.best.x1), .v (.int .i64 e72.at_)], .box 35 [.v (.int .i64 y137.Seg), .v (.int .i64 y137.Cost), .v (.bool y137.Up)], .box 41 [.v (.int .i64 y177.x0), .v (.int .i64 y177.x1)], .sav [.p 0 0, .ip 81 2 0, .row 3, .mp 4, .p 7 0, .p 8 0, .v (.slice A118 y111.Ports.length c119), .v (.int .i64 (y111.Ports.length : Int)), .v (.int .i64 i128), .v (.slice A159 x144.2.1.length c160), .v (.int .i64 (x144.2.1.length : Int)), .v (.int .i64 i168)] vals252] ∧ ks = [.p 0 0, .ip 81 2 0, .row 3, .mp 4, .p 7 0, .p 8 0, .v (.slice A118 y111.Ports.length c119), .v (.int .i64 (y111.Ports.length : Int)), .v (.int .i64 i128), .v (.slice A159 x144.2.1.length c160), .v (.int .i64 (x144.2.1.length : Int)), .v (.int .i64 i168)] ∧ s = .v (.tuple #[]) ∧ GLe G251 Γ ∧ Els Γ l255 es256 ∧ tree_bests_j6 k i168 (loopN (fun _ _ => none) (tree_bests_s16 k p0 m41 e72 i128 (loopN (fun _ _ => none) (tree_bests_s17 k p0 m41 (loopN (fun _ _ _ => none) (tree_bests_s31 k p0) n46) e72 l84 y111) n136) y137 x144) n176) l255 = some r) ?_ ?_)))
                              · skip
                                rintro _ G259 _ _ ⟨vals252, l255, es256, rfl, rfl, rfl, hle258, h257, H⟩
                                unfold tree_bests_j6 at H
                                have h120 := Rep.mono hle258 h120; have h161 := Rep.mono hle258 h161; have h3 := Rep.mono hle258 h3; have h6 := Rep.mono hle258 h6; have h86 := Els.mono h86 hle258
                                exact EL.nil (EX.fewer (hj191 _ _ _ ⟨l255, es256, rfl, rfl, (GLe.trans hle250 hle258), h257, H⟩) ⟨⟨_, rfl, rfl⟩, ⟨_, rfl, rfl⟩, ⟨_, rfl, rfl⟩, ⟨_, rfl, rfl⟩, ⟨_, rfl, rfl⟩, ⟨_, rfl, rfl⟩, ⟨_, rfl, rfl⟩, ⟨_, rfl, rfl⟩, ⟨_, rfl, rfl⟩, ⟨_, rfl, rfl⟩, ⟨_, rfl, rfl⟩, ⟨_, rfl, rfl⟩, trivial⟩ ⟨.inr rfl, .inr rfl, .inr rfl, .inr rfl, .inr rfl, .inr rfl, .inr rfl, .inr rfl, .inr rfl, .inr rfl, trivial⟩ rfl rfl)
                              · skip
                                intro K253 vals252 hB254
                                refine E.seq (E.region (EL.run tabOk 2 rfl (EL.inv [0] rfl rfl rfl rfl rfl (mth_ptr mth_81_Push rfl) Try.func84 tree_ways_Push_enters rfl Try.ntmps84 rfl rfl (fun L Γ ks s => ∃ (vals260 : List Value) (l263 : (List tree_way)) (es264 : List Value), L = [.box 25 [.v (.int .i64 p0.Segs), .v (.slice A1 p0.Plans.length c2), .v (.slice A4 p0.Hosts.length c5)], .row 88 3 l263.length es264, .box 83 [.row 1], .row 61 2 l84.length (es39.set (e72.at_ : Int).toNat (.agg #[.int .i64 e72.best.x0, .int .i64 e72.best.x1])), .mp (mE Value.bool (mset m41 e72.at_ true)), .gone, .gone, .box 88 [.v (.int .i64 e72.best.x0), .v (.int .i64 e72.best.x1), .v (.int .i64 e72.at_)], .box 35 [.v (.int .i64 y137.Seg), .v (.int .i64 y137.Cost), .v (.bool y137.Up)], .box 41 [.v (.int .i64 y177.x0), .v (.int .i64 y177.x1)], .sav [.p 0 0, .ip 81 2 0, .row 3, .mp 4, .p 7 0, .p 8 0, .v (.slice A118 y111.Ports.length c119), .v (.int .i64 (y111.Ports.length : Int)), .v (.int .i64 i128), .v (.slice A159 x144.2.1.length c160), .v (.int .i64 (x144.2.1.length : Int)), .v (.int .i64 i168)] vals252, .sav [.ip 81 2 0] vals260] ∧ ks = [.ip 81 2 0] ∧ s = .v (.tuple #[]) ∧ GLe G251 Γ ∧ Els Γ l263 es264 ∧ tree_bests_j14 k i168 (loopN (fun _ _ => none) (tree_bests_s16 k p0 m41 e72 i128 (loopN (fun _ _ => none) (tree_bests_s17 k p0 m41 (loopN (fun _ _ _ => none) (tree_bests_s31 k p0) n46) e72 l84 y111) n136) y137 x144) n176) l263 = some r) ?_ ?_)))
                                · skip
                                  rintro _ G267 _ _ ⟨vals260, l263, es264, rfl, rfl, rfl, hle266, h265, H⟩
                                  unfold tree_bests_j14 at H
                                  have h3 := Rep.mono hle266 h3; have h6 := Rep.mono hle266 h6; have h86 := Els.mono h86 hle266; have h120 := Rep.mono hle266 h120; have h161 := Rep.mono hle266 h161
                                  refine EL.nil (EX.seq (E.region (EL.run tabOk 2 rfl (EL.inv [7] rfl rfl rfl rfl rfl (mth_val tabOk mth_81_Len rfl rfl) Try.func81 tree_ways_Len_enters rfl Try.ntmps81 rfl rfl (fun L Γ ks s => ∃ (vals268 : List Value) (l271 : (List tree_way)) (i274 : Int) (es272 : List Value), L = [.box 25 [.v (.int .i64 p0.Segs), .v (.slice A1 p0.Plans.length c2), .v (.slice A4 p0.Hosts.length c5)], .row 88 3 l271.length es272, .box 83 [.row 1], .row 61 2 l84.length (es39.set (e72.at_ : Int).toNat (.agg #[.int .i64 e72.best.x0, .int .i64 e72.best.x1])), .mp (mE Value.bool (mset m41 e72.at_ true)), .gone, .gone, .box 88 [.v (.int .i64 e72.best.x0), .v (.int .i64 e72.best.x1), .v (.int .i64 e72.at_)], .box 35 [.v (.int .i64 y137.Seg), .v (.int .i64 y137.Cost), .v (.bool y137.Up)], .box 41 [.v (.int .i64 y177.x0), .v (.int .i64 y177.x1)], .sav [.p 0 0, .ip 81 2 0, .row 3, .mp 4, .p 7 0, .p 8 0, .v (.slice A118 y111.Ports.length c119), .v (.int .i64 (y111.Ports.length : Int)), .v (.int .i64 i128), .v (.slice A159 x144.2.1.length c160), .v (.int .i64 (x144.2.1.length : Int)), .v (.int .i64 i168)] vals252, .gone, .sav [.ip 81 2 0] vals268] ∧ ks = [.ip 81 2 0] ∧ s = .v (.int .i64 i274) ∧ GLe G267 Γ ∧ Els Γ l271 es272 ∧ tree_bests_j13 k i168 (loopN (fun _ _ => none) (tree_bests_s16 k p0 m41 e72 i128 (loopN (fun _ _ => none) (tree_bests_s17 k p0 m41 (loopN (fun _ _ _ => none) (tree_bests_s31 k p0) n46) e72 l84 y111) n136) y137 x144) n176) l271 i274 = some r) ?_ ?_))))
                                  · skip
                                    rintro _ G276 _ _ ⟨vals268, l271, i274, es272, rfl, rfl, rfl, hle275, h273, H⟩
                                    unfold tree_bests_j13 at H
                                    have h3 := Rep.mono hle275 h3; have h6 := Rep.mono hle275 h6; have h86 := Els.mono h86 hle275; have h120 := Rep.mono hle275 h120; have h161 := Rep.mono hle275 h161
                                    refine EL.run tabOk 1 rfl (EL.inl [] rfl rfl rfl rfl rfl rfl Try.func53 container_heap_up_enters rfl Try.ntmps53 rfl rfl (fun L Γ ks s => ∃ (vals277 : List Value) (l280 : (List tree_way)) (es281 : List Value), L = [.box 25 [.v (.int .i64 p0.Segs), .v (.slice A1 p0.Plans.length c2), .v (.slice A4 p0.Hosts.length c5)], .row 88 3 l280.length es281, .box 83 [.row 1], .row 61 2 l84.length (es39.set (e72.at_ : Int).toNat (.agg #[.int .i64 e72.best.x0, .int .i64 e72.best.x1])), .mp (mE Value.bool (mset m41 e72.at_ true)), .gone, .gone, .box 88 [.v (.int .i64 e72.best.x0), .v (.int .i64 e72.best.x1), .v (.int .i64 e72.at_)], .box 35 [.v (.int .i64 y137.Seg), .v (.int .i64 y137.Cost), .v (.bool y137.Up)], .box 41 [.v (.int .i64 y177.x0), .v (.int .i64 y177.x1)], .sav [.p 0 0, .ip 81 2 0, .row 3, .mp 4, .p 7 0, .p 8 0, .v (.slice A118 y111.Ports.length c119), .v (.int .i64 (y111.Ports.length : Int)), .v (.int .i64 i128), .v (.slice A159 x144.2.1.length c160), .v (.int .i64 (x144.2.1.length : Int)), .v (.int .i64 i168)] vals252, .gone, .gone, .sav [] vals277] ∧ ks = [] ∧ s = .v (.tuple #[]) ∧ GLe G276 Γ ∧ Els Γ l280 es281 ∧ tree_bests_j7 k i168 (loopN (fun _ _ => none) (tree_bests_s16 k p0 m41 e72 i128 (loopN (fun _ _ => none) (tree_bests_s17 k p0 m41 (loopN (fun _ _ _ => none) (tree_bests_s31 k p0) n46) e72 l84 y111) n136) y137 x144) n176) l280 = some r) ?_ ?_)
                                    · skip
                                      rintro _ G284 _ _ ⟨vals277, l280, es281, rfl, rfl, rfl, hle283, h282, H⟩
                                      unfold tree_bests_j7 at H
                                      have h3 := Rep.mono hle283 h3; have h6 := Rep.mono hle283 h6; have h86 := Els.mono h86 hle283; have h120 := Rep.mono hle283 h120; have h161 := Rep.mono hle283 h161
                                      exact EL.nil (EX.backVN hB254 ⟨vals252, l280, es281, rfl, rfl, rfl, (GLe.trans (GLe.trans hle266 hle275) hle283), h282, H⟩ tabOk rfl ⟨.inr rfl, .inr rfl, .inr rfl, .inr rfl, .inr rfl, .inr rfl, .inr rfl, .inr rfl, .inr rfl, .inr rfl, .inr rfl, trivial⟩ rfl rfl)
                                    · skip
                                      intro K278 vals277 hB279
                                      refine E.join (fun env L Γ => ∃ (l285 : (List tree_way)) (es286 : List Value), env = [] ∧ L = [.box 25 [.v (.int .i64 p0.Segs), .v (.slice A1 p0.Plans.length c2), .v (.slice A4 p0.Hosts.length c5)], .row 88 3 l285.length es286, .box 83 [.row 1], .row 61 2 l84.length (es39.set (e72.at_ : Int).toNat (.agg #[.int .i64 e72.best.x0, .int .i64 e72.best.x1])), .mp (mE Value.bool (mset m41 e72.at_ true)), .gone, .gone, .box 88 [.v (.int .i64 e72.best.x0), .v (.int .i64 e72.best.x1), .v (.int .i64 e72.at_)], .box 35 [.v (.int .i64 y137.Seg), .v (.int .i64 y137.Cost), .v (.bool y137.Up)], .box 41 [.v (.int .i64 y177.x0), .v (.int .i64 y177.x1)], .sav [.p 0 0, .ip 81 2 0, .row 3, .mp 4, .p 7 0, .p 8 0, .v (.slice A118 y111.Ports.length c119), .v (.int .i64 (y111.Ports.length : Int)), .v (.int .i64 i128), .v (.slice A159 x144.2.1.length c160), .v (.int .i64 (x144.2.1.length : Int)), .v (.int .i64 i168)] vals252, .gone, .gone, .sav [] vals277] ∧ GLe G276 Γ ∧ Els Γ l285 es286 ∧ tree_bests_j8 k i168 (loopN (fun _ _ => none) (tree_bests_s16 k p0 m41 e72 i128 (loopN (fun _ _ => none) (tree_bests_s17 k p0 m41 (loopN (fun _ _ _ => none) (tree_bests_s31 k p0) n46) e72 l84 y111) n136) y137 x144) n176) l285 = some r) ?_ (fun hj288 => ?_)
                                      · skip
                                        rintro _ _ G290 ⟨l285, es286, rfl, rfl, hle289, h287, H⟩
                                        unfold tree_bests_j8 at H
                                        have h3 := Rep.mono hle289 h3; have h6 := Rep.mono hle289 h6; have h86 := Els.mono h86 hle289; have h120 := Rep.mono hle289 h120; have h161 := Rep.mono hle289 h161
                                        exact EX.backVN hB279 ⟨vals277, l285, es286, rfl, rfl, rfl, hle289, h287, H⟩ tabOk rfl ⟨.inr rfl, .inr rfl, .inr rfl, .inr rfl, .inr rfl, .inr rfl, .inr rfl, .inr rfl, .inr rfl, .inr rfl, .inr rfl, .inr rfl, .inr rfl, .inr rfl, trivial⟩ rfl rfl
                                      · skip
                                        refine E.block (E.fewer (E.loop (fun n env L Γ => ∃ (i291 : Int) (l292 : (List tree_way)) (es293 : List Value), env = [(0, some (.ip 81 2 0)), (1, some (.v (.int .i64 i291)))] ∧ L = [.box 25 [.v (.int .i64 p0.Segs), .v (.slice A1 p0.Plans.length c2), .v (.slice A4 p0.Hosts.length c5)], .row 88 3 l292.length es293, .box 83 [.row 1], .row 61 2 l84.length (es39.set (e72.at_ : Int).toNat (.agg #[.int .i64 e72.best.x0, .int .i64 e72.best.x1])), .mp (mE Value.bool (mset m41 e72.at_ true)), .gone, .gone, .box 88 [.v (.int .i64 e72.best.x0), .v (.int .i64 e72.best.x1), .v (.int .i64 e72.at_)], .box 35 [.v (.int .i64 y137.Seg), .v (.int .i64 y137.Cost), .v (.bool y137.Up)], .box 41 [.v (.int .i64 y177.x0), .v (.int .i64 y177.x1)], .sav [.p 0 0, .ip 81 2 0, .row 3, .mp 4, .p 7 0, .p 8 0, .v (.slice A118 y111.Ports.length c119), .v (.int .i64 (y111.Ports.length : Int)), .v (.int .i64 i128), .v (.slice A159 x144.2.1.length c160), .v (.int .i64 (x144.2.1.length : Int)), .v (.int .i64 i168)] vals252, .gone, .gone, .sav [] vals277] ∧ GLe G276 Γ ∧ Els Γ l292 es293 ∧ loopN (fun _ _ => none) (tree_bests_s12 k i168 (loopN (fun _ _ => none) (tree_bests_s16 k p0 m41 e72 i128 (loopN (fun _ _ => none) (tree_bests_s17 k p0 m41 (loopN (fun _ _ _ => none) (tree_bests_s31 k p0) n46) e72 l84 y111) n136) y137 x144) n176)) n i291 l292 = some r) k ⟨wr (i274 - 1), l271, es272, rfl, rfl, GLe.refl _, h273, H⟩ ?_) ⟨⟨_, rfl, rfl⟩, ⟨_, rfl, rfl⟩, trivial⟩ ⟨.inr rfl, .inr rfl, .inr rfl, .inr rfl, .inr rfl, .inr rfl, .inr rfl, .inr rfl, .inr rfl, .inr rfl, .inr rfl, .inr rfl, .inl trivial, .inr rfl, trivial⟩ rfl rfl)
                                        rintro n299 _ _ G297 ⟨i291, l292, es293, rfl, rfl, hle295, h294, H⟩ K hK298
                                        obtain _ | n299 := n299
                                        · exact none_ne H
                                        rw [loopN] at H; unfold tree_bests_s12 at H
                                        have h3 := Rep.mono hle295 h3; have h6 := Rep.mono hle295 h6; have h86 := Els.mono h86 hle295; have h120 := Rep.mono hle295 h120; have h161 := Rep.mono hle295 h161
                                        refine E.block (E.seq (E.region (EL.run tabOk 2 rfl ?_)))
                                        obtain ⟨i300, hq301, H⟩ := bind_some H
                                        refine EL.quo hq301 rfl rfl rfl rfl rfl (EL.run tabOk 1 rfl (EL.nil (EX.seq (E.seq (E.seq (E.join (fun env L Γ => ∃ (b302 : Bool) (l303 : (List tree_way)) (es304 : List Value), env = [(0, some (.ip 81 2 0)), (1, some (.v (.int .i64 i291))), (4, some (.v (.int .i64 i300))), (17, some (.v (.bool b302)))] ∧ L = [.box 25 [.v (.int .i64 p0.Segs), .v (.slice A1 p0.Plans.length c2), .v (.slice A4 p0.Hosts.length c5)], .row 88 3 l303.length es304, .box 83 [.row 1], .row 61 2 l84.length (es39.set (e72.at_ : Int).toNat (.agg #[.int .i64 e72.best.x0, .int .i64 e72.best.x1])), .mp (mE Value.bool (mset m41 e72.at_ true)), .gone, .gone, .box 88 [.v (.int .i64 e72.best.x0), .v (.int .i64 e72.best.x1), .v (.int .i64 e72.at_)], .box 35 [.v (.int .i64 y137.Seg), .v (.int .i64 y137.Cost), .v (.bool y137.Up)], .box 41 [.v (.int .i64 y177.x0), .v (.int .i64 y177.x1)], .sav [.p 0 0, .ip 81 2 0, .row 3, .mp 4, .p 7 0, .p 8 0, .v (.slice A118 y111.Ports.length c119), .v (.int .i64 (y111.Ports.length : Int)), .v (.int .i64 i128), .v (.slice A159 x144.2.1.length c160), .v (.int .i64 (x144.2.1.length : Int)), .v (.int .i64 i168)] vals252, .gone, .gone, .sav [] vals277] ∧ GLe G297 Γ ∧ Els Γ l303 es304 ∧ tree_bests_j10 k i168 (loopN (fun _ _ => none) (tree_bests_s16 k p0 m41 e72 i128 (loopN (fun _ _ => none) (tree_bests_s17 k p0 m41 (loopN (fun _ _ _ => none) (tree_bests_s31 k p0) n46) e72 l84 y111) n136) y137 x144) n176) i291 (loopN (fun _ _ => none) (tree_bests_s12 k i168 (loopN (fun _ _ => none) (tree_bests_s16 k p0 m41 e72 i128 (loopN (fun _ _ => none) (tree_bests_s17 k p0 m41 (loopN (fun _ _ _ => none) (tree_bests_s31 k p0) n46) e72 l84 y111) n136) y137 x144) n176)) n299) i300 b302 l303 = some r) ?_ (fun hj306 => ?_)))))))
                                        · skip
                                          rintro _ _ G308 ⟨b302, l303, es304, rfl, rfl, hle307, h305, H⟩
                                          unfold tree_bests_j10 at H
                                          have h3 := Rep.mono hle307 h3; have h6 := Rep.mono hle307 h6; have h86 := Els.mono h86 hle307; have h120 := Rep.mono hle307 h120; have h161 := Rep.mono hle307 h161
                                          refine EX.seq (E.cond rfl H (fun hb H => ?_) (fun hb H => ?_))
                                          · skip
                                            exact E.exit (EX.out (EX.miss rfl (EX.out (EX.hit (EX.fewer (hj288 _ _ _ ⟨l303, es304, rfl, rfl, (GLe.trans hle295 hle307), h305, H⟩) trivial ⟨.inr rfl, .inr rfl, .inr rfl, .inr rfl, .inr rfl, .inr rfl, .inr rfl, .inr rfl, .inr rfl, .inr rfl, .inr rfl, .inr rfl, .inr rfl, .inr rfl, trivial⟩ rfl rfl)))))
                                          · skip
                                            refine E.skip (EX.seq (E.seq (E.region (EL.run tabOk 3 rfl (EL.inv [0, 4] rfl rfl rfl rfl rfl (mth_val tabOk mth_81_Swap rfl rfl) Try.func85 tree_ways_Swap_enters rfl Try.ntmps85 rfl rfl (fun L Γ ks s => ∃ (vals309 : List Value) (l312 : (List tree_way)) (es313 : List Value), L = [.box 25 [.v (.int .i64 p0.Segs), .v (.slice A1 p0.Plans.length c2), .v (.slice A4 p0.Hosts.length c5)], .row 88 3 l312.length es313, .box 83 [.row 1], .row 61 2 l84.length (es39.set (e72.at_ : Int).toNat (.agg #[.int .i64 e72.best.x0, .int .i64 e72.best.x1])), .mp (mE Value.bool (mset m41 e72.at_ true)), .gone, .gone, .box 88 [.v (.int .i64 e72.best.x0), .v (.int .i64 e72.best.x1), .v (.int .i64 e72.at_)], .box 35 [.v (.int .i64 y137.Seg), .v (.int .i64 y137.Cost), .v (.bool y137.Up)], .box 41 [.v (.int .i64 y177.x0), .v (.int .i64 y177.x1)], .sav [.p 0 0, .ip 81 2 0, .row 3, .mp 4, .p 7 0, .p 8 0, .v (.slice A118 y111.Ports.length c119), .v (.int .i64 (y111.Ports.length : Int)), .v (.int .i64 i128), .v (.slice A159 x144.2.1.length c160), .v (.int .i64 (x144.2.1.length : Int)), .v (.int .i64 i168)] vals252, .gone, .gone, .sav [] vals277, .sav [.ip 81 2 0, .v (.int .i64 i300)] vals309] ∧ ks = [.ip 81 2 0, .v (.int .i64 i300)] ∧ s = .v (.tuple #[]) ∧ GLe G308 Γ ∧ Els Γ l312 es313 ∧ tree_bests_j9 k (loopN (fun _ _ => none) (tree_bests_s12 k i168 (loopN (fun _ _ => none) (tree_bests_s16 k p0 m41 e72 i128 (loopN (fun _ _ => none) (tree_bests_s17 k p0 m41 (loopN (fun _ _ _ => none) (tree_bests_s31 k p0) n46) e72 l84 y111) n136) y137 x144) n176)) n299) i300 l312 = some r) ?_ ?_)))))
                                            · skip
                                              rintro _ G316 _ _ ⟨vals309, l312, es313, rfl, rfl, rfl, hle315, h314, H⟩
                                              unfold tree_bests_j9 at H
                                              have h3 := Rep.mono hle315 h3; have h6 := Rep.mono hle315 h6; have h86 := Els.mono h86 hle315; have h120 := Rep.mono hle315 h120; have h161 := Rep.mono hle315 h161
                                              exact EL.nil (EX.seq (E.region (EL.run tabOk 2 rfl (EL.nil (EX.block (EX.fewer (hK298 n299 _ _ _ (Nat.lt_succ_self _) ⟨i300, l312, es313, rfl, rfl, (GLe.trans (GLe.trans hle295 hle307) hle315), h314, H⟩) ⟨⟨_, rfl, rfl⟩, ⟨_, rfl, rfl⟩, trivial⟩ ⟨.inr rfl, .inr rfl, .inr rfl, .inr rfl, .inr rfl, .inr rfl, .inr rfl, .inr rfl, .inr rfl, .inr rfl, .inr rfl, .inr rfl, .inr rfl, .inr rfl, trivial⟩ rfl rfl))))))
                                            · skip
                                              intro K310 vals309 hB311
                                              obtain ⟨y317, hy318, H⟩ := bind_some H
                                              obtain ⟨g319, g320, g321, g322⟩ := idx_some hy318; obtain ⟨u323, hj324, hu325⟩ := All2.get h305 g322
                                              obtain rfl : _ = _ := hu325
                                              obtain ⟨y326, hy327, H⟩ := bind_some H
                                              obtain ⟨g328, g329, g330, g331⟩ := idx_some hy327; obtain ⟨u332, hj333, hu334⟩ := All2.get h305 g331
                                              obtain rfl : _ = _ := hu334
                                              obtain ⟨y335, hy336, H⟩ := bind_some H
                                              obtain ⟨g337, g338, g339, g340⟩ := idx_some hy336; obtain ⟨u341, hj342, hu343⟩ := All2.get h305 g340
                                              obtain rfl : _ = _ := hu343
                                              obtain ⟨l344, hx345, H⟩ := bind_some H
                                              have h346 := upd_els hx345 h305 (show R G308 y317 (.agg #[.int .i64 y317.best.x0, .int .i64 y317.best.x1, .int .i64 y317.at_]) from rfl)
                                              obtain ⟨y347, hy348, H⟩ := bind_some H
                                              obtain ⟨g349, g350, g351, g352⟩ := idx_some hy348; obtain ⟨u353, hj354, hu355⟩ := All2.get h346 g352
                                              obtain rfl : _ = _ := hu355
                                              obtain ⟨l356, hx357, H⟩ := bind_some H
                                              have h358 := upd_els hx357 h346 (show R G308 y326 (.agg #[.int .i64 y326.best.x0, .int .i64 y326.best.x1, .int .i64 y326.at_]) from rfl)
                                              refine E.fewer (env' := [(0, some (.row 1)), (1, some (.v (.int .i64 i300))), (2, some (.v (.int .i64 i291)))]) (L' := [.box 25 [.v (.int .i64 p0.Segs), .v (.slice A1 p0.Plans.length c2), .v (.slice A4 p0.Hosts.length c5)], .row 88 3 l303.length es304, .box 83 [.row 1], .row 61 2 l84.length (es39.set (e72.at_ : Int).toNat (.agg #[.int .i64 e72.best.x0, .int .i64 e72.best.x1])), .mp (mE Value.bool (mset m41 e72.at_ true)), .gone, .gone, .box 88 [.v (.int .i64 e72.best.x0), .v (.int .i64 e72.best.x1), .v (.int .i64 e72.at_)], .box 35 [.v (.int .i64 y137.Seg), .v (.int .i64 y137.Cost), .v (.bool y137.Up)], .box 41 [.v (.int .i64 y177.x0), .v (.int .i64 y177.x1)], .sav [.p 0 0, .ip 81 2 0, .row 3, .mp 4, .p 7 0, .p 8 0, .v (.slice A118 y111.Ports.length c119), .v (.int .i64 (y111.Ports.length : Int)), .v (.int .i64 i128), .v (.slice A159 x144.2.1.length c160), .v (.int .i64 (x144.2.1.length : Int)), .v (.int .i64 i168)] vals252, .gone, .gone, .sav [] vals277, .sav [.ip 81 2 0, .v (.int .i64 i300)] vals309]) (E.sub' ((E.draw mixed (fun (bs : List Bool) (env : Env) (L : List Ent) (Γ : Ghost) => match bs with | [b0', b1', b2', b3', b4', b5', b6', b7', b8', b9', b10', b11', b12', b13', b14', b15'] =>  env = [(6, bif b0' then some (.row 1) else none), (7, bif b1' then some (.v (.int .i64 i300)) else none), (8, bif b2' then some (.row 1) else none), (9, bif b3' then some (.v (.int .i64 i291)) else none), (10, bif b4' then some (.row 1) else none), (11, bif b5' then some (.v (.int .i64 i291)) else none), (12, bif b6' then some (.p 1 ((i291 : Int).toNat * 3)) else none), (13, bif b7' then some (.v (.agg #[.int .i64 y317.best.x0, .int .i64 y317.best.x1, .int .i64 y317.at_])) else none), (14, bif b8' then some (.row 1) else none), (15, bif b9' then some (.v (.int .i64 i300)) else none), (16, bif b10' then some (.p 1 ((i300 : Int).toNat * 3)) else none), (17, bif b11' then some (.v (.agg #[.int .i64 y326.best.x0, .int .i64 y326.best.x1, .int .i64 y326.at_])) else none), (18, bif b12' then some (.p 1 ((i300 : Int).toNat * 3)) else none), (19, bif b14' then some (.p 1 ((i291 : Int).toNat * 3)) else none), (0, some (.row 1)), (1, some (.v (.int .i64 i300))), (2, some (.v (.int .i64 i291)))] ∧ L = [.box 25 [.v (.int .i64 p0.Segs), .v (.slice A1 p0.Plans.length c2), .v (.slice A4 p0.Hosts.length c5)], (bif b15' then .row 88 3 l356.length ((es304.set (i300 : Int).toNat (.agg #[.int .i64 y317.best.x0, .int .i64 y317.best.x1, .int .i64 y317.at_])).set (i291 : Int).toNat (.agg #[.int .i64 y326.best.x0, .int .i64 y326.best.x1, .int .i64 y326.at_])) else bif b13' then .row 88 3 l344.length (es304.set (i300 : Int).toNat (.agg #[.int .i64 y317.best.x0, .int .i64 y317.best.x1, .int .i64 y317.at_])) else .row 88 3 l303.length es304), .box 83 [.row 1], .row 61 2 l84.length (es39.set (e72.at_ : Int).toNat (.agg #[.int .i64 e72.best.x0, .int .i64 e72.best.x1])), .mp (mE Value.bool (mset m41 e72.at_ true)), .gone, .gone, .box 88 [.v (.int .i64 e72.best.x0), .v (.int .i64 e72.best.x1), .v (.int .i64 e72.at_)], .box 35 [.v (.int .i64 y137.Seg), .v (.int .i64 y137.Cost), .v (.bool y137.Up)], .box 41 [.v (.int .i64 y177.x0), .v (.int .i64 y177.x1)], .sav [.p 0 0, .ip 81 2 0, .row 3, .mp 4, .p 7 0, .p 8 0, .v (.slice A118 y111.Ports.length c119), .v (.int .i64 (y111.Ports.length : Int)), .v (.int .i64 i128), .v (.slice A159 x144.2.1.length c160), .v (.int .i64 (x144.2.1.length : Int)), .v (.int .i64 i168)] vals252, .gone, .gone, .sav [] vals277, .sav [.ip 81 2 0, .v (.int .i64 i300)] vals309] ∧ GLe G308 Γ ∧ (b11' = true → b10' = true) ∧ (b13' = true → b11' = true) | _ => False) ⟨rfl, rfl, GLe.refl _, (fun h => nomatch h), (fun h => nomatch h)⟩ rfl ?_ ?_)) ⟨rfl, rfl, rfl, rfl, rfl, rfl, rfl, rfl, rfl, rfl, rfl, rfl, rfl, rfl, rfl, rfl, rfl, trivial⟩) ⟨⟨_, rfl, rfl⟩, ⟨_, rfl, rfl⟩, ⟨_, rfl, rfl⟩, trivial⟩ ⟨.inr rfl, .inr rfl, .inr rfl, .inr rfl, .inr rfl, .inr rfl, .inr rfl, .inr rfl, .inr rfl, .inr rfl, .inr rfl, .inr rfl, .inr rfl, .inr rfl, .inr rfl, trivial⟩ rfl rfl
                                              · refine ⟨?_, ?_, ?_, ?_, ?_, ?_, ?_, ?_, ?_, ?_, ?_, ?_, ?_, ?_, ?_, ?_, trivial⟩
                                                · intro b0' b1' b2' b3' b4' b5' b6' b7' b8' b9' b10' b11' b12' b13' b14' b15'
                                                  rintro ⟨⟩ ⟨⟩ ⟨⟩ ⟨⟩ ⟨⟩
                                                  rintro _ _ G360 ⟨rfl, rfl, hle359, w11_10, w13_11⟩ K hK
                                                  exact EL.step tabOk rfl (EL.nil (EX.sub' (hK _ _ _ ⟨rfl, rfl, hle359, w11_10, w13_11⟩) ⟨rfl, rfl, rfl, rfl, rfl, rfl, rfl, rfl, rfl, rfl, rfl, rfl, rfl, rfl, rfl, rfl, rfl, trivial⟩))
                                                · intro b0' b1' b2' b3' b4' b5' b6' b7' b8' b9' b10' b11' b12' b13' b14' b15'
                                                  rintro ⟨⟩ ⟨⟩ ⟨⟩ ⟨⟩ ⟨⟩
                                                  rintro _ _ G362 ⟨rfl, rfl, hle361, w11_10, w13_11⟩ K hK
                                                  exact EL.step tabOk rfl (EL.nil (EX.sub' (hK _ _ _ ⟨rfl, rfl, hle361, w11_10, w13_11⟩) ⟨rfl, rfl, rfl, rfl, rfl, rfl, rfl, rfl, rfl, rfl, rfl, rfl, rfl, rfl, rfl, rfl, rfl, trivial⟩))
                                                · intro b0' b1' b2' b3' b4' b5' b6' b7' b8' b9' b10' b11' b12' b13' b14' b15'
                                                  rintro ⟨⟩ ⟨⟩ ⟨⟩
                                                  rintro _ _ G364 ⟨rfl, rfl, hle363, w11_10, w13_11⟩ K hK
                                                  exact EL.step tabOk rfl (EL.nil (EX.sub' (hK _ _ _ ⟨rfl, rfl, hle363, w11_10, w13_11⟩) ⟨rfl, rfl, rfl, rfl, rfl, rfl, rfl, rfl, rfl, rfl, rfl, rfl, rfl, rfl, rfl, rfl, rfl, trivial⟩))
                                                · intro b0' b1' b2' b3' b4' b5' b6' b7' b8' b9' b10' b11' b12' b13' b14' b15'
                                                  rintro ⟨⟩ ⟨⟩ ⟨⟩
                                                  rintro _ _ G366 ⟨rfl, rfl, hle365, w11_10, w13_11⟩ K hK
                                                  exact EL.step tabOk rfl (EL.nil (EX.sub' (hK _ _ _ ⟨rfl, rfl, hle365, w11_10, w13_11⟩) ⟨rfl, rfl, rfl, rfl, rfl, rfl, rfl, rfl, rfl, rfl, rfl, rfl, rfl, rfl, rfl, rfl, rfl, trivial⟩))
                                                · intro b0' b1' b2' b3' b4' b5' b6' b7' b8' b9' b10' b11' b12' b13' b14' b15'
                                                  rintro ⟨⟩ ⟨⟩ ⟨⟩ ⟨⟩ ⟨⟩ ⟨⟩
                                                  rintro _ _ G368 ⟨rfl, rfl, hle367, w11_10, w13_11⟩ K hK
                                                  exact EL.step tabOk rfl (EL.nil (EX.sub' (hK _ _ _ ⟨rfl, rfl, hle367, w11_10, w13_11⟩) ⟨rfl, rfl, rfl, rfl, rfl, rfl, rfl, rfl, rfl, rfl, rfl, rfl, rfl, rfl, rfl, rfl, rfl, trivial⟩))
                                                · intro b0' b1' b2' b3' b4' b5' b6' b7' b8' b9' b10' b11' b12' b13' b14' b15'
                                                  rintro ⟨⟩ ⟨⟩ ⟨⟩ ⟨⟩ ⟨⟩ ⟨⟩
                                                  rintro _ _ G370 ⟨rfl, rfl, hle369, w11_10, w13_11⟩ K hK
                                                  exact EL.step tabOk rfl (EL.nil (EX.sub' (hK _ _ _ ⟨rfl, rfl, hle369, w11_10, w13_11⟩) ⟨rfl, rfl, rfl, rfl, rfl, rfl, rfl, rfl, rfl, rfl, rfl, rfl, rfl, rfl, rfl, rfl, rfl, trivial⟩))
                                                · intro b0' b1' b2' b3' b4' b5' b6' b7' b8' b9' b10' b11' b12' b13' b14' b15'
                                                  rintro ⟨⟩ ⟨⟩ ⟨⟩ ⟨⟩ ⟨⟩ ⟨⟩ ⟨⟩ ⟨⟩
                                                  rintro _ _ G372 ⟨rfl, rfl, hle371, w11_10, w13_11⟩ K hK
                                                  exact EL.indexRow g319 g321 tabOk rfl rfl rfl rfl rfl rfl rfl rfl (EL.nil (EX.sub' (hK _ _ _ ⟨rfl, rfl, hle371, w11_10, w13_11⟩) ⟨rfl, rfl, rfl, rfl, rfl, rfl, rfl, rfl, rfl, rfl, rfl, rfl, rfl, rfl, rfl, rfl, rfl, trivial⟩))
                                                · intro b0' b1' b2' b3' b4' b5' b6' b7' b8' b9' b10' b11' b12' b13' b14' b15'
                                                  rintro ⟨⟩ ⟨⟩ ⟨⟩ ⟨⟩ ⟨⟩ ⟨⟩
                                                  rintro _ _ G374 ⟨rfl, rfl, hle373, w11_10, w13_11⟩ K hK
                                                  exact EL.loadRow (j := (i291 : Int).toNat) (off := 0) (sz := 3) hj324 (part_whole _) tabOk rfl rfl rfl rfl rfl rfl rfl rfl (EL.nil (EX.sub' (hK _ _ _ ⟨rfl, rfl, hle373, w11_10, w13_11⟩) ⟨rfl, rfl, rfl, rfl, rfl, rfl, rfl, rfl, rfl, rfl, rfl, rfl, rfl, rfl, rfl, rfl, rfl, trivial⟩))
                                                · intro b0' b1' b2' b3' b4' b5' b6' b7' b8' b9' b10' b11' b12' b13' b14' b15'
                                                  rintro ⟨⟩ ⟨⟩ ⟨⟩ ⟨⟩
                                                  rintro _ _ G376 ⟨rfl, rfl, hle375, w11_10, w13_11⟩ K hK
                                                  obtain rfl : b11' = false := ncl w11_10
                                                  obtain rfl : b13' = false := ncl w13_11
                                                  exact EL.step tabOk rfl (EL.nil (EX.sub' (hK _ _ _ ⟨rfl, rfl, hle375, w11_10, w13_11⟩) ⟨rfl, rfl, rfl, rfl, rfl, rfl, rfl, rfl, rfl, rfl, rfl, rfl, rfl, rfl, rfl, rfl, rfl, trivial⟩))
                                                · intro b0' b1' b2' b3' b4' b5' b6' b7' b8' b9' b10' b11' b12' b13' b14' b15'
                                                  rintro ⟨⟩ ⟨⟩ ⟨⟩ ⟨⟩
                                                  rintro _ _ G378 ⟨rfl, rfl, hle377, w11_10, w13_11⟩ K hK
                                                  exact EL.step tabOk rfl (EL.nil (EX.sub' (hK _ _ _ ⟨rfl, rfl, hle377, w11_10, w13_11⟩) ⟨rfl, rfl, rfl, rfl, rfl, rfl, rfl, rfl, rfl, rfl, rfl, rfl, rfl, rfl, rfl, rfl, rfl, trivial⟩))
                                                · intro b0' b1' b2' b3' b4' b5' b6' b7' b8' b9' b10' b11' b12' b13' b14' b15'
                                                  rintro ⟨⟩ ⟨⟩ ⟨⟩ ⟨⟩ ⟨⟩ ⟨⟩
                                                  rintro _ _ G380 ⟨rfl, rfl, hle379, w11_10, w13_11⟩ K hK
                                                  obtain rfl : b13' = false := ncl w13_11
                                                  exact EL.indexRow g328 g330 tabOk rfl rfl rfl rfl rfl rfl rfl rfl (EL.nil (EX.sub' (hK _ _ _ ⟨rfl, rfl, hle379, (fun _ => rfl), w13_11⟩) ⟨rfl, rfl, rfl, rfl, rfl, rfl, rfl, rfl, rfl, rfl, rfl, rfl, rfl, rfl, rfl, rfl, rfl, trivial⟩))
                                                · intro b0' b1' b2' b3' b4' b5' b6' b7' b8' b9' b10' b11' b12' b13' b14' b15'
                                                  rintro ⟨⟩ ⟨⟩ ⟨⟩ ⟨⟩ ⟨⟩ ⟨⟩
                                                  rintro _ _ G382 ⟨rfl, rfl, hle381, w11_10, w13_11⟩ K hK
                                                  exact EL.loadRow (j := (i300 : Int).toNat) (off := 0) (sz := 3) hj333 (part_whole _) tabOk rfl rfl rfl rfl rfl rfl rfl rfl (EL.nil (EX.sub' (hK _ _ _ ⟨rfl, rfl, hle381, (fun _ => rfl), (fun _ => rfl)⟩) ⟨rfl, rfl, rfl, rfl, rfl, rfl, rfl, rfl, rfl, rfl, rfl, rfl, rfl, rfl, rfl, rfl, rfl, trivial⟩))
                                                · intro b0' b1' b2' b3' b4' b5' b6' b7' b8' b9' b10' b11' b12' b13' b14' b15'
                                                  rintro ⟨⟩ ⟨⟩ ⟨⟩ ⟨⟩ ⟨⟩ ⟨⟩ ⟨⟩ ⟨⟩ ⟨⟩ ⟨⟩ ⟨⟩ ⟨⟩ ⟨⟩
                                                  rintro _ _ G384 ⟨rfl, rfl, hle383, w11_10, w13_11⟩ K hK
                                                  exact EL.indexRow g337 g339 tabOk rfl rfl rfl rfl rfl rfl rfl rfl (EL.nil (EX.sub' (hK _ _ _ ⟨rfl, rfl, hle383, w11_10, w13_11⟩) ⟨rfl, rfl, rfl, rfl, rfl, rfl, rfl, rfl, rfl, rfl, rfl, rfl, rfl, rfl, rfl, rfl, rfl, trivial⟩))
                                                · intro b0' b1' b2' b3' b4' b5' b6' b7' b8' b9' b10' b11' b12' b13' b14' b15'
                                                  rintro ⟨⟩ ⟨⟩ ⟨⟩ ⟨⟩ ⟨⟩ ⟨⟩ ⟨⟩ ⟨⟩ ⟨⟩ ⟨⟩ ⟨⟩ ⟨⟩
                                                  rintro _ _ G386 ⟨rfl, rfl, hle385, w11_10, w13_11⟩ K hK
                                                  have h305 := Els.mono h305 hle385
                                                  exact EL.updX hx345 h305 (show R _ y317 (.agg #[.int .i64 y317.best.x0, .int .i64 y317.best.x1, .int .i64 y317.at_]) from rfl) tabOk rfl rfl rfl rfl rfl rfl rfl rfl rfl rfl (EL.nil (EX.sub' (hK _ _ _ ⟨rfl, rfl, hle385, w11_10, (fun _ => rfl)⟩) ⟨rfl, rfl, rfl, rfl, rfl, rfl, rfl, rfl, rfl, rfl, rfl, rfl, rfl, rfl, rfl, rfl, rfl, trivial⟩))
                                                · intro b0' b1' b2' b3' b4' b5' b6' b7' b8' b9' b10' b11' b12' b13' b14' b15'
                                                  rintro ⟨⟩ ⟨⟩ ⟨⟩ ⟨⟩ ⟨⟩ ⟨⟩ ⟨⟩ ⟨⟩ ⟨⟩ ⟨⟩ ⟨⟩ ⟨⟩ ⟨⟩ ⟨⟩ ⟨⟩ ⟨⟩ ⟨⟩ ⟨⟩
                                                  rintro _ _ G388 ⟨rfl, rfl, hle387, w11_10, w13_11⟩ K hK
                                                  exact EL.indexRow g349 g351 tabOk rfl rfl rfl rfl rfl rfl rfl rfl (EL.nil (EX.sub' (hK _ _ _ ⟨rfl, rfl, hle387, w11_10, w13_11⟩) ⟨rfl, rfl, rfl, rfl, rfl, rfl, rfl, rfl, rfl, rfl, rfl, rfl, rfl, rfl, rfl, rfl, rfl, trivial⟩))
                                                · intro b0' b1' b2' b3' b4' b5' b6' b7' b8' b9' b10' b11' b12' b13' b14' b15'
                                                  rintro ⟨⟩ ⟨⟩ ⟨⟩ ⟨⟩ ⟨⟩ ⟨⟩ ⟨⟩ ⟨⟩ ⟨⟩ ⟨⟩ ⟨⟩ ⟨⟩ ⟨⟩ ⟨⟩ ⟨⟩ ⟨⟩ ⟨⟩ ⟨⟩
                                                  rintro _ _ G390 ⟨rfl, rfl, hle389, w11_10, w13_11⟩ K hK
                                                  have h346 := Els.mono h346 hle389
                                                  exact EL.updX hx357 h346 (show R _ y326 (.agg #[.int .i64 y326.best.x0, .int .i64 y326.best.x1, .int .i64 y326.at_]) from rfl) tabOk rfl rfl rfl rfl rfl rfl rfl rfl rfl rfl (EL.nil (EX.sub' (hK _ _ _ ⟨rfl, rfl, hle389, w11_10, w13_11⟩) ⟨rfl, rfl, rfl, rfl, rfl, rfl, rfl, rfl, rfl, rfl, rfl, rfl, rfl, rfl, rfl, rfl, rfl, trivial⟩))
                                              rintro _ _ G392 ⟨rfl, rfl, hle391, w11_10, w13_11⟩
                                              have h3 := Rep.mono hle391 h3
                                              have h6 := Rep.mono hle391 h6
                                              have h358 := Els.mono h358 hle391
                                              have h86 := Els.mono h86 hle391
                                              have h120 := Rep.mono hle391 h120
                                              have h161 := Rep.mono hle391 h161
                                              exact EX.backVN hB311 ⟨vals309, l356, ((es304.set (i300 : Int).toNat (.agg #[.int .i64 y317.best.x0, .int .i64 y317.best.x1, .int .i64 y317.at_])).set (i291 : Int).toNat (.agg #[.int .i64 y326.best.x0, .int .i64 y326.best.x1, .int .i64 y326.at_])), rfl, rfl, rfl, hle391, h358, H⟩ tabOk rfl ⟨.inr rfl, .inr rfl, .inr rfl, .inr rfl, .inr rfl, .inr rfl, .inr rfl, .inr rfl, .inr rfl, .inr rfl, .inr rfl, .inr rfl, .inr rfl, .inr rfl, .inr rfl, trivial⟩ rfl rfl
                                        · skip
                                          refine E.region (EL.run tabOk 4 rfl (EL.split (s := 11) rfl H (fun hb H => ?_) (fun hb H => ?_)))
                                          · skip
                                            exact EL.run tabOk 6 rfl (EL.nil (EX.fewer (hj306 _ _ _ ⟨true, l292, es293, rfl, rfl, (GLe.refl _), h294, H⟩) ⟨⟨_, rfl, rfl⟩, ⟨_, rfl, rfl⟩, ⟨_, rfl, rfl⟩, ⟨_, rfl, rfl⟩, trivial⟩ ⟨.inr rfl, .inr rfl, .inr rfl, .inr rfl, .inr rfl, .inr rfl, .inr rfl, .inr rfl, .inr rfl, .inr rfl, .inr rfl, .inr rfl, .inr rfl, .inr rfl, trivial⟩ rfl rfl))
                                          · skip
                                            refine EL.run tabOk 3 rfl (EL.inv [0, 1, 4, 11] rfl rfl rfl rfl rfl (mth_val tabOk mth_81_Less rfl rfl) Try.func82 tree_ways_Less_enters rfl Try.ntmps82 rfl rfl (fun L Γ ks s => ∃ (vals393 : List Value) (l396 : (List tree_way)) (b399 : Bool) (es397 : List Value), L = [.box 25 [.v (.int .i64 p0.Segs), .v (.slice A1 p0.Plans.length c2), .v (.slice A4 p0.Hosts.length c5)], .row 88 3 l396.length es397, .box 83 [.row 1], .row 61 2 l84.length (es39.set (e72.at_ : Int).toNat (.agg #[.int .i64 e72.best.x0, .int .i64 e72.best.x1])), .mp (mE Value.bool (mset m41 e72.at_ true)), .gone, .gone, .box 88 [.v (.int .i64 e72.best.x0), .v (.int .i64 e72.best.x1), .v (.int .i64 e72.at_)], .box 35 [.v (.int .i64 y137.Seg), .v (.int .i64 y137.Cost), .v (.bool y137.Up)], .box 41 [.v (.int .i64 y177.x0), .v (.int .i64 y177.x1)], .sav [.p 0 0, .ip 81 2 0, .row 3, .mp 4, .p 7 0, .p 8 0, .v (.slice A118 y111.Ports.length c119), .v (.int .i64 (y111.Ports.length : Int)), .v (.int .i64 i128), .v (.slice A159 x144.2.1.length c160), .v (.int .i64 (x144.2.1.length : Int)), .v (.int .i64 i168)] vals252, .gone, .gone, .sav [] vals277, .sav [.ip 81 2 0, .v (.int .i64 i291), .v (.int .i64 i300), .ff] vals393] ∧ ks = [.ip 81 2 0, .v (.int .i64 i291), .v (.int .i64 i300), .ff] ∧ s = .v (.bool b399) ∧ GLe G297 Γ ∧ Els Γ l396 es397 ∧ tree_bests_j11 k i168 (loopN (fun _ _ => none) (tree_bests_s16 k p0 m41 e72 i128 (loopN (fun _ _ => none) (tree_bests_s17 k p0 m41 (loopN (fun _ _ _ => none) (tree_bests_s31 k p0) n46) e72 l84 y111) n136) y137 x144) n176) i291 (loopN (fun _ _ => none) (tree_bests_s12 k i168 (loopN (fun _ _ => none) (tree_bests_s16 k p0 m41 e72 i128 (loopN (fun _ _ => none) (tree_bests_s17 k p0 m41 (loopN (fun _ _ _ => none) (tree_bests_s31 k p0) n46) e72 l84 y111) n136) y137 x144) n176)) n299) i300 l396 b399 = some r) ?_ ?_)
                                            · skip
                                              rintro _ G401 _ _ ⟨vals393, l396, b399, es397, rfl, rfl, rfl, hle400, h398, H⟩
                                              unfold tree_bests_j11 at H
                                              have h3 := Rep.mono hle400 h3; have h6 := Rep.mono hle400 h6; have h86 := Els.mono h86 hle400; have h120 := Rep.mono hle400 h120; have h161 := Rep.mono hle400 h161
                                              exact EL.run tabOk 2 rfl (EL.nil (EX.fewer (hj306 _ _ _ ⟨!b399, l396, es397, rfl, rfl, hle400, h398, H⟩) ⟨⟨_, rfl, rfl⟩, ⟨_, rfl, rfl⟩, ⟨_, rfl, rfl⟩, ⟨_, rfl, rfl⟩, trivial⟩ ⟨.inr rfl, .inr rfl, .inr rfl, .inr rfl, .inr rfl, .inr rfl, .inr rfl, .inr rfl, .inr rfl, .inr rfl, .inr rfl, .inr rfl, .inr rfl, .inr rfl, trivial⟩ rfl rfl))
                                            · skip
                                              intro K394 vals393 hB395
                                              refine E.seq (E.region (EL.run tabOk 1 rfl (EL.nil (EX.seq (E.seq ?_)))))
                                              obtain ⟨y402, hy403, H⟩ := bind_some H
                                              obtain ⟨g404, g405, g406, g407⟩ := idx_some hy403; obtain ⟨u408, hj409, hu410⟩ := All2.get h294 g407
                                              obtain rfl : _ = _ := hu410
                                              obtain ⟨y411, hy412, H⟩ := bind_some H
                                              obtain ⟨g413, g414, g415, g416⟩ := idx_some hy412; obtain ⟨u417, hj418, hu419⟩ := All2.get h294 g416
                                              obtain rfl : _ = _ := hu419
                                              obtain ⟨x420, hx421, H⟩ := bind_some H
                                              refine E.fewer (env' := [(0, some (.row 1)), (1, some (.v (.int .i64 i291))), (2, some (.v (.int .i64 i300)))]) (L' := [.box 25 [.v (.int .i64 p0.Segs), .v (.slice A1 p0.Plans.length c2), .v (.slice A4 p0.Hosts.length c5)], .row 88 3 l292.length es293, .box 83 [.row 1], .row 61 2 l84.length (es39.set (e72.at_ : Int).toNat (.agg #[.int .i64 e72.best.x0, .int .i64 e72.best.x1])), .mp (mE Value.bool (mset m41 e72.at_ true)), .gone, .gone, .box 88 [.v (.int .i64 e72.best.x0), .v (.int .i64 e72.best.x1), .v (.int .i64 e72.at_)], .box 35 [.v (.int .i64 y137.Seg), .v (.int .i64 y137.Cost), .v (.bool y137.Up)], .box 41 [.v (.int .i64 y177.x0), .v (.int .i64 y177.x1)], .sav [.p 0 0, .ip 81 2 0, .row 3, .mp 4, .p 7 0, .p 8 0, .v (.slice A118 y111.Ports.length c119), .v (.int .i64 (y111.Ports.length : Int)), .v (.int .i64 i128), .v (.slice A159 x144.2.1.length c160), .v (.int .i64 (x144.2.1.length : Int)), .v (.int .i64 i168)] vals252, .gone, .gone, .sav [] vals277, .sav [.ip 81 2 0, .v (.int .i64 i291), .v (.int .i64 i300), .ff] vals393]) (E.sub' ((E.draw mixed (fun (bs : List Bool) (env : Env) (L : List Ent) (Γ : Ghost) => match bs with | [b0', b1', b2', b3', b4', b5', b6', b7', b8', b9', b10', b11'] =>  env = [(7, bif b0' then some (.row 1) else none), (8, bif b1' then some (.v (.int .i64 i291)) else none), (9, bif b2' then some (.p 1 ((i291 : Int).toNat * 3)) else none), (10, bif b3' then some (.p 1 ((i291 : Int).toNat * 3)) else none), (11, bif b4' then some (.v (.agg #[.int .i64 y402.best.x0, .int .i64 y402.best.x1])) else none), (12, bif b5' then some (.row 1) else none), (13, bif b6' then some (.v (.int .i64 i300)) else none), (14, bif b7' then some (.p 1 ((i300 : Int).toNat * 3)) else none), (15, bif b8' then some (.p 1 ((i300 : Int).toNat * 3)) else none), (16, bif b9' then some (.v (.agg #[.int .i64 y411.best.x0, .int .i64 y411.best.x1])) else none), (17, bif b10' then some (.v (.bool x420)) else none), (6, bif b11' then some (.v (.bool x420)) else none), (0, some (.row 1)), (1, some (.v (.int .i64 i291))), (2, some (.v (.int .i64 i300)))] ∧ L = [.box 25 [.v (.int .i64 p0.Segs), .v (.slice A1 p0.Plans.length c2), .v (.slice A4 p0.Hosts.length c5)], .row 88 3 l292.length es293, .box 83 [.row 1], .row 61 2 l84.length (es39.set (e72.at_ : Int).toNat (.agg #[.int .i64 e72.best.x0, .int .i64 e72.best.x1])), .mp (mE Value.bool (mset m41 e72.at_ true)), .gone, .gone, .box 88 [.v (.int .i64 e72.best.x0), .v (.int .i64 e72.best.x1), .v (.int .i64 e72.at_)], .box 35 [.v (.int .i64 y137.Seg), .v (.int .i64 y137.Cost), .v (.bool y137.Up)], .box 41 [.v (.int .i64 y177.x0), .v (.int .i64 y177.x1)], .sav [.p 0 0, .ip 81 2 0, .row 3, .mp 4, .p 7 0, .p 8 0, .v (.slice A118 y111.Ports.length c119), .v (.int .i64 (y111.Ports.length : Int)), .v (.int .i64 i128), .v (.slice A159 x144.2.1.length c160), .v (.int .i64 (x144.2.1.length : Int)), .v (.int .i64 i168)] vals252, .gone, .gone, .sav [] vals277, .sav [.ip 81 2 0, .v (.int .i64 i291), .v (.int .i64 i300), .ff] vals393] ∧ GLe G297 Γ | _ => False) ⟨rfl, rfl, GLe.refl _⟩ rfl ?_ ?_)) ⟨rfl, rfl, rfl, rfl, rfl, rfl, rfl, rfl, rfl, rfl, rfl, rfl, rfl, rfl, rfl, trivial⟩) ⟨⟨_, rfl, rfl⟩, ⟨_, rfl, rfl⟩, ⟨_, rfl, rfl⟩, trivial⟩ ⟨.inr rfl, .inr rfl, .inr rfl, .inr rfl, .inr rfl, .inr rfl, .inr rfl, .inr rfl, .inr rfl, .inr rfl, .inr rfl, .inr rfl, .inr rfl, .inr rfl, .inr rfl, trivial⟩ rfl rfl
                                              · refine ⟨?_, ?_, ?_, ?_, ?_, ?_, ?_, ?_, ?_, ?_, ?_, ?_, trivial⟩
                                                · intro b0' b1' b2' b3' b4' b5' b6' b7' b8' b9' b10' b11'
                                                  rintro ⟨⟩ ⟨⟩ ⟨⟩
                                                  rintro _ _ G423 ⟨rfl, rfl, hle422⟩ K hK
                                                  exact EL.step tabOk rfl (EL.nil (EX.sub' (hK _ _ _ ⟨rfl, rfl, hle422⟩) ⟨rfl, rfl, rfl, rfl, rfl, rfl, rfl, rfl, rfl, rfl, rfl, rfl, rfl, rfl, rfl, trivial⟩))
                                                · intro b0' b1' b2' b3' b4' b5' b6' b7' b8' b9' b10' b11'
                                                  rintro ⟨⟩ ⟨⟩ ⟨⟩
                                                  rintro _ _ G425 ⟨rfl, rfl, hle424⟩ K hK
                                                  exact EL.step tabOk rfl (EL.nil (EX.sub' (hK _ _ _ ⟨rfl, rfl, hle424⟩) ⟨rfl, rfl, rfl, rfl, rfl, rfl, rfl, rfl, rfl, rfl, rfl, rfl, rfl, rfl, rfl, trivial⟩))
                                                · intro b0' b1' b2' b3' b4' b5' b6' b7' b8' b9' b10' b11'
                                                  rintro ⟨⟩ ⟨⟩ ⟨⟩ ⟨⟩ ⟨⟩
                                                  rintro _ _ G427 ⟨rfl, rfl, hle426⟩ K hK
                                                  exact EL.indexRow g404 g406 tabOk rfl rfl rfl rfl rfl rfl rfl rfl (EL.nil (EX.sub' (hK _ _ _ ⟨rfl, rfl, hle426⟩) ⟨rfl, rfl, rfl, rfl, rfl, rfl, rfl, rfl, rfl, rfl, rfl, rfl, rfl, rfl, rfl, trivial⟩))
                                                · intro b0' b1' b2' b3' b4' b5' b6' b7' b8' b9' b10' b11'
                                                  rintro ⟨⟩ ⟨⟩ ⟨⟩ ⟨⟩
                                                  rintro _ _ G429 ⟨rfl, rfl, hle428⟩ K hK
                                                  exact EL.step tabOk rfl (EL.nil (EX.sub' (hK _ _ _ ⟨rfl, rfl, hle428⟩) ⟨rfl, rfl, rfl, rfl, rfl, rfl, rfl, rfl, rfl, rfl, rfl, rfl, rfl, rfl, rfl, trivial⟩))
                                                · intro b0' b1' b2' b3' b4' b5' b6' b7' b8' b9' b10' b11'
                                                  rintro ⟨⟩ ⟨⟩ ⟨⟩ ⟨⟩
                                                  rintro _ _ G431 ⟨rfl, rfl, hle430⟩ K hK
                                                  exact EL.loadRow (j := (i291 : Int).toNat) (off := 0) (sz := 3) hj409 (part_sub (n := 2) rfl rfl) tabOk rfl rfl rfl rfl rfl rfl rfl rfl (EL.nil (EX.sub' (hK _ _ _ ⟨rfl, rfl, hle430⟩) ⟨rfl, rfl, rfl, rfl, rfl, rfl, rfl, rfl, rfl, rfl, rfl, rfl, rfl, rfl, rfl, trivial⟩))
                                                · intro b0' b1' b2' b3' b4' b5' b6' b7' b8' b9' b10' b11'
                                                  rintro ⟨⟩ ⟨⟩ ⟨⟩
                                                  rintro _ _ G433 ⟨rfl, rfl, hle432⟩ K hK
                                                  exact EL.step tabOk rfl (EL.nil (EX.sub' (hK _ _ _ ⟨rfl, rfl, hle432⟩) ⟨rfl, rfl, rfl, rfl, rfl, rfl, rfl, rfl, rfl, rfl, rfl, rfl, rfl, rfl, rfl, trivial⟩))
                                                · intro b0' b1' b2' b3' b4' b5' b6' b7' b8' b9' b10' b11'
                                                  rintro ⟨⟩ ⟨⟩ ⟨⟩
                                                  rintro _ _ G435 ⟨rfl, rfl, hle434⟩ K hK
                                                  exact EL.step tabOk rfl (EL.nil (EX.sub' (hK _ _ _ ⟨rfl, rfl, hle434⟩) ⟨rfl, rfl, rfl, rfl, rfl, rfl, rfl, rfl, rfl, rfl, rfl, rfl, rfl, rfl, rfl, trivial⟩))
                                                · intro b0' b1' b2' b3' b4' b5' b6' b7' b8' b9' b10' b11'
                                                  rintro ⟨⟩ ⟨⟩ ⟨⟩ ⟨⟩ ⟨⟩
                                                  rintro _ _ G437 ⟨rfl, rfl, hle436⟩ K hK
                                                  exact EL.indexRow g413 g415 tabOk rfl rfl rfl rfl rfl rfl rfl rfl (EL.nil (EX.sub' (hK _ _ _ ⟨rfl, rfl, hle436⟩) ⟨rfl, rfl, rfl, rfl, rfl, rfl, rfl, rfl, rfl, rfl, rfl, rfl, rfl, rfl, rfl, trivial⟩))
                                                · intro b0' b1' b2' b3' b4' b5' b6' b7' b8' b9' b10' b11'
                                                  rintro ⟨⟩ ⟨⟩ ⟨⟩ ⟨⟩
                                                  rintro _ _ G439 ⟨rfl, rfl, hle438⟩ K hK
                                                  exact EL.step tabOk rfl (EL.nil (EX.sub' (hK _ _ _ ⟨rfl, rfl, hle438⟩) ⟨rfl, rfl, rfl, rfl, rfl, rfl, rfl, rfl, rfl, rfl, rfl, rfl, rfl, rfl, rfl, trivial⟩))
                                                · intro b0' b1' b2' b3' b4' b5' b6' b7' b8' b9' b10' b11'
                                                  rintro ⟨⟩ ⟨⟩ ⟨⟩ ⟨⟩
                                                  rintro _ _ G441 ⟨rfl, rfl, hle440⟩ K hK
                                                  exact EL.loadRow (j := (i300 : Int).toNat) (off := 0) (sz := 3) hj418 (part_sub (n := 2) rfl rfl) tabOk rfl rfl rfl rfl rfl rfl rfl rfl (EL.nil (EX.sub' (hK _ _ _ ⟨rfl, rfl, hle440⟩) ⟨rfl, rfl, rfl, rfl, rfl, rfl, rfl, rfl, rfl, rfl, rfl, rfl, rfl, rfl, rfl, trivial⟩))
                                                · intro b0' b1' b2' b3' b4' b5' b6' b7' b8' b9' b10' b11'
                                                  rintro ⟨⟩ ⟨⟩ ⟨⟩ ⟨⟩
                                                  rintro _ _ G443 ⟨rfl, rfl, hle442⟩ K hK
                                                  refine EL.call rfl rfl rfl rfl tree_best_less_enters (fun w hw => tree_best_less_ok hx421 hw ) (fun v444 G447 hle446 hv445 => ?_)
                                                  obtain rfl : _ = _ := hv445
                                                  exact EL.nil (EX.sub' (hK _ _ _ ⟨rfl, rfl, (GLe.trans hle442 hle446)⟩) ⟨rfl, rfl, rfl, rfl, rfl, rfl, rfl, rfl, rfl, rfl, rfl, rfl, rfl, rfl, rfl, trivial⟩)
                                                · intro b0' b1' b2' b3' b4' b5' b6' b7' b8' b9' b10' b11'
                                                  rintro ⟨⟩ ⟨⟩ ⟨⟩ ⟨⟩ ⟨⟩ ⟨⟩ ⟨⟩ ⟨⟩ ⟨⟩ ⟨⟩ ⟨⟩ ⟨⟩ ⟨⟩ ⟨⟩
                                                  rintro _ _ G449 ⟨rfl, rfl, hle448⟩ K hK
                                                  exact EL.step tabOk rfl (EL.nil (EX.sub' (hK _ _ _ ⟨rfl, rfl, hle448⟩) ⟨rfl, rfl, rfl, rfl, rfl, rfl, rfl, rfl, rfl, rfl, rfl, rfl, rfl, rfl, rfl, trivial⟩))
                                              rintro _ _ G451 ⟨rfl, rfl, hle450⟩
                                              have h3 := Rep.mono hle450 h3
                                              have h6 := Rep.mono hle450 h6
                                              have h294 := Els.mono h294 hle450
                                              have h86 := Els.mono h86 hle450
                                              have h120 := Rep.mono hle450 h120
                                              have h161 := Rep.mono hle450 h161
                                              exact EX.seq (E.ret (EX.back hB395 ⟨vals393, l292, x420, es293, rfl, rfl, rfl, hle450, h294, H⟩ tabOk rfl rfl (fun _ => rfl) ⟨.inr rfl, .inr rfl, .inr rfl, .inr rfl, .inr rfl, .inr rfl, .inr rfl, .inr rfl, .inr rfl, .inr rfl, .inr rfl, .inr rfl, .inr rfl, .inr rfl, .inr rfl, trivial⟩ rfl rfl rfl))
                                  · skip
                                    intro K269 vals268 hB270
                                    exact E.seq (E.region (EL.run tabOk 1 rfl (EL.nil (EX.seq (E.seq (E.region (EL.run tabOk 3 rfl (EL.nil (EX.seq (E.ret (EX.back hB270 ⟨vals268, l263, ((l263.length : Nat) : Int), es264, rfl, rfl, rfl, (GLe.refl _), h265, H⟩ tabOk rfl rfl (fun _ => rfl) ⟨.inr rfl, .inr rfl, .inr rfl, .inr rfl, .inr rfl, .inr rfl, .inr rfl, .inr rfl, .inr rfl, .inr rfl, .inr rfl, .inl trivial, .inr rfl, trivial⟩ rfl rfl rfl)))))))))))
                                · skip
                                  intro K261 vals260 hB262
                                  obtain ⟨l452, hp453, H⟩ := bind_some H
                                  have h454 := push_els hp453 h171 (show R G251 (⟨(⟨e72.best.x0, wr (e72.best.x1 + y211.Cost)⟩ : arr2_i64), y177.x0⟩ : tree_way) (.agg #[.int .i64 e72.best.x0, .int .i64 (wr (e72.best.x1 + y211.Cost)), .int .i64 y177.x0]) from rfl)
                                  refine E.fewer (env' := [(0, some (.p 2 0)), (1, some (.v (.iface 88 (.agg #[.int .i64 e72.best.x0, .int .i64 (wr (e72.best.x1 + y211.Cost)), .int .i64 y177.x0]))))]) (L' := [.box 25 [.v (.int .i64 p0.Segs), .v (.slice A1 p0.Plans.length c2), .v (.slice A4 p0.Hosts.length c5)], .row 88 3 l169.length es170, .box 83 [.row 1], .row 61 2 l84.length (es39.set (e72.at_ : Int).toNat (.agg #[.int .i64 e72.best.x0, .int .i64 e72.best.x1])), .mp (mE Value.bool (mset m41 e72.at_ true)), .gone, .gone, .box 88 [.v (.int .i64 e72.best.x0), .v (.int .i64 e72.best.x1), .v (.int .i64 e72.at_)], .box 35 [.v (.int .i64 y137.Seg), .v (.int .i64 y137.Cost), .v (.bool y137.Up)], .box 41 [.v (.int .i64 y177.x0), .v (.int .i64 y177.x1)], .sav [.p 0 0, .ip 81 2 0, .row 3, .mp 4, .p 7 0, .p 8 0, .v (.slice A118 y111.Ports.length c119), .v (.int .i64 (y111.Ports.length : Int)), .v (.int .i64 i128), .v (.slice A159 x144.2.1.length c160), .v (.int .i64 (x144.2.1.length : Int)), .v (.int .i64 i168)] vals252, .sav [.ip 81 2 0] vals260]) (E.sub' (E.hole ((E.draw mixed (fun (bs : List Bool) (env : Env) (L : List Ent) (Γ : Ghost) => match bs with | [b0', b1', b2', b3', b4', b5', b6', b7', b8', b9'] => ∃ (vl455 : Value), env = [(4, bif b0' then some (.p 2 0) else none), (5, bif b1' then some (.p 2 0) else none), (6, bif b2' then some (.p 2 0) else none), (7, bif b3' then (bif b7' then none else some (.row 1)) else none), (8, bif b4' then some (.v (.iface 88 (.agg #[.int .i64 e72.best.x0, .int .i64 (wr (e72.best.x1 + y211.Cost)), .int .i64 y177.x0]))) else none), (9, bif b5' then some (.v (.agg #[.int .i64 e72.best.x0, .int .i64 (wr (e72.best.x1 + y211.Cost)), .int .i64 y177.x0])) else none), (10, bif b6' then (bif b7' then none else some (.row 12)) else none), (11, bif b7' then some (.row 1) else none), (12, bif b8' then some (.p 2 0) else none), (0, some (.p 2 0)), (1, some (.v (.iface 88 (.agg #[.int .i64 e72.best.x0, .int .i64 (wr (e72.best.x1 + y211.Cost)), .int .i64 y177.x0]))))] ∧ L = [.box 25 [.v (.int .i64 p0.Segs), .v (.slice A1 p0.Plans.length c2), .v (.slice A4 p0.Hosts.length c5)], (bif b7' then .row 88 3 l452.length (es170 ++ [.agg #[.int .i64 e72.best.x0, .int .i64 (wr (e72.best.x1 + y211.Cost)), .int .i64 y177.x0]]) else .row 88 3 l169.length es170), (bif b9' then .box 83 [.row 1] else bif b7' then .box 83 [.v (vl455)] else .box 83 [.row 1]), .row 61 2 l84.length (es39.set (e72.at_ : Int).toNat (.agg #[.int .i64 e72.best.x0, .int .i64 e72.best.x1])), .mp (mE Value.bool (mset m41 e72.at_ true)), .gone, .gone, .box 88 [.v (.int .i64 e72.best.x0), .v (.int .i64 e72.best.x1), .v (.int .i64 e72.at_)], .box 35 [.v (.int .i64 y137.Seg), .v (.int .i64 y137.Cost), .v (.bool y137.Up)], .box 41 [.v (.int .i64 y177.x0), .v (.int .i64 y177.x1)], .sav [.p 0 0, .ip 81 2 0, .row 3, .mp 4, .p 7 0, .p 8 0, .v (.slice A118 y111.Ports.length c119), .v (.int .i64 (y111.Ports.length : Int)), .v (.int .i64 i128), .v (.slice A159 x144.2.1.length c160), .v (.int .i64 (x144.2.1.length : Int)), .v (.int .i64 i168)] vals252, .sav [.ip 81 2 0] vals260, (bif b7' then .gone else bif b6' then .row 88 3 1 [(.agg #[.int .i64 e72.best.x0, .int .i64 (wr (e72.best.x1 + y211.Cost)), .int .i64 y177.x0])] else .gone)] ∧ GLe G251 Γ ∧ (b3' = true → b2' = true) ∧ (b7' = true → b3' = true) | _ => False) ⟨undef, rfl, rfl, GLe.refl _, (fun h => nomatch h), (fun h => nomatch h)⟩ rfl ?_ ?_))) ⟨rfl, rfl, rfl, rfl, rfl, rfl, rfl, rfl, rfl, rfl, rfl, trivial⟩) ⟨⟨_, rfl, rfl⟩, ⟨_, rfl, rfl⟩, trivial⟩ ⟨.inr rfl, .inr rfl, .inr rfl, .inr rfl, .inr rfl, .inr rfl, .inr rfl, .inr rfl, .inr rfl, .inr rfl, .inr rfl, .inr rfl, trivial⟩ rfl rfl
                                  · refine ⟨?_, ?_, ?_, ?_, ?_, ?_, ?_, ?_, ?_, ?_, trivial⟩
                                    · intro b0' b1' b2' b3' b4' b5' b6' b7' b8' b9'
                                      rintro ⟨⟩ ⟨⟩ ⟨⟩
                                      rintro _ _ G457 ⟨vl455, rfl, rfl, hle456, w3_2, w7_3⟩ K hK
                                      exact EL.step tabOk rfl (EL.nil (EX.sub' (hK _ _ _ ⟨vl455, rfl, rfl, hle456, w3_2, w7_3⟩) ⟨rfl, rfl, rfl, rfl, rfl, rfl, rfl, rfl, rfl, rfl, rfl, trivial⟩))
                                    · intro b0' b1' b2' b3' b4' b5' b6' b7' b8' b9'
                                      rintro ⟨⟩ ⟨⟩ ⟨⟩ ⟨⟩
                                      rintro _ _ G459 ⟨vl455, rfl, rfl, hle458, w3_2, w7_3⟩ K hK
                                      obtain rfl : b3' = false := ncl w3_2
                                      obtain rfl : b7' = false := ncl w7_3
                                      exact EL.step tabOk rfl (EL.nil (EX.sub' (hK _ _ _ ⟨vl455, rfl, rfl, hle458, w3_2, w7_3⟩) ⟨rfl, rfl, rfl, rfl, rfl, rfl, rfl, rfl, rfl, rfl, rfl, trivial⟩))
                                    · intro b0' b1' b2' b3' b4' b5' b6' b7' b8' b9'
                                      rintro ⟨⟩ ⟨⟩ ⟨⟩ ⟨⟩ ⟨⟩
                                      rintro _ _ G461 ⟨vl455, rfl, rfl, hle460, w3_2, w7_3⟩ K hK
                                      obtain rfl : b7' = false := ncl w7_3
                                      exact EL.step tabOk rfl (EL.nil (EX.sub' (hK _ _ _ ⟨vl455, rfl, rfl, hle460, (fun _ => rfl), w7_3⟩) ⟨rfl, rfl, rfl, rfl, rfl, rfl, rfl, rfl, rfl, rfl, rfl, trivial⟩))
                                    · intro b0' b1' b2' b3' b4' b5' b6' b7' b8' b9'
                                      rintro ⟨⟩ ⟨⟩ ⟨⟩ ⟨⟩ ⟨⟩
                                      rintro _ _ G463 ⟨vl455, rfl, rfl, hle462, w3_2, w7_3⟩ K hK
                                      exact EL.step tabOk rfl (EL.nil (EX.sub' (hK _ _ _ ⟨vl455, rfl, rfl, hle462, (fun _ => rfl), (fun _ => rfl)⟩) ⟨rfl, rfl, rfl, rfl, rfl, rfl, rfl, rfl, rfl, rfl, rfl, trivial⟩))
                                    · intro b0' b1' b2' b3' b4' b5' b6' b7' b8' b9'
                                      rintro ⟨⟩ ⟨⟩ ⟨⟩ ⟨⟩
                                      rintro _ _ G465 ⟨vl455, rfl, rfl, hle464, w3_2, w7_3⟩ K hK
                                      exact EL.step tabOk rfl (EL.nil (EX.sub' (hK _ _ _ ⟨vl455, rfl, rfl, hle464, w3_2, w7_3⟩) ⟨rfl, rfl, rfl, rfl, rfl, rfl, rfl, rfl, rfl, rfl, rfl, trivial⟩))
                                    · intro b0' b1' b2' b3' b4' b5' b6' b7' b8' b9'
                                      rintro ⟨⟩ ⟨⟩ ⟨⟩ ⟨⟩ ⟨⟩
                                      rintro _ _ G467 ⟨vl455, rfl, rfl, hle466, w3_2, w7_3⟩ K hK
                                      exact EL.assert tabOk rfl rfl rfl rfl rfl rfl (EL.nil (EX.sub' (hK _ _ _ ⟨vl455, rfl, rfl, hle466, w3_2, w7_3⟩) ⟨rfl, rfl, rfl, rfl, rfl, rfl, rfl, rfl, rfl, rfl, rfl, trivial⟩))
                                    · intro b0' b1' b2' b3' b4' b5' b6' b7' b8' b9'
                                      rintro ⟨⟩ ⟨⟩ ⟨⟩ ⟨⟩ ⟨⟩
                                      rintro _ _ G469 ⟨vl455, rfl, rfl, hle468, w3_2, w7_3⟩ K hK
                                      refine EL.step tabOk rfl (EL.nil (EX.homeR 12 rfl (by repeat' (first | exact nrE_nil | refine nrE_cons ?_ ?_ | exact nrO_none | exact nrO_some rfl | refine nrO_if ?_ ?_)) (by repeat' (first | exact nrL_nil | refine nrL_cons ?_ ?_ | exact rfl | refine nrN_if ?_ ?_)) rfl ?_))
                                      exact EX.sub' (hK _ _ _ ⟨vl455, rfl, rfl, hle468, w3_2, w7_3⟩) ⟨rfl, rfl, rfl, rfl, rfl, rfl, rfl, rfl, rfl, rfl, rfl, trivial⟩
                                    · intro b0' b1' b2' b3' b4' b5' b6' b7' b8' b9'
                                      rintro ⟨⟩ ⟨⟩ ⟨⟩ ⟨⟩ ⟨⟩
                                      rintro _ _ G471 ⟨vl455, rfl, rfl, hle470, w3_2, w7_3⟩ K hK
                                      have h171 := Els.mono h171 hle470
                                      refine EL.pushX (Lk := fun vl455 => [.box 25 [.v (.int .i64 p0.Segs), .v (.slice A1 p0.Plans.length c2), .v (.slice A4 p0.Hosts.length c5)], (bif false then .row 88 3 l452.length (es170 ++ [.agg #[.int .i64 e72.best.x0, .int .i64 (wr (e72.best.x1 + y211.Cost)), .int .i64 y177.x0]]) else .row 88 3 l169.length es170), .box 83 [.v (vl455)], .row 61 2 l84.length (es39.set (e72.at_ : Int).toNat (.agg #[.int .i64 e72.best.x0, .int .i64 e72.best.x1])), .mp (mE Value.bool (mset m41 e72.at_ true)), .gone, .gone, .box 88 [.v (.int .i64 e72.best.x0), .v (.int .i64 e72.best.x1), .v (.int .i64 e72.at_)], .box 35 [.v (.int .i64 y137.Seg), .v (.int .i64 y137.Cost), .v (.bool y137.Up)], .box 41 [.v (.int .i64 y177.x0), .v (.int .i64 y177.x1)], .sav [.p 0 0, .ip 81 2 0, .row 3, .mp 4, .p 7 0, .p 8 0, .v (.slice A118 y111.Ports.length c119), .v (.int .i64 (y111.Ports.length : Int)), .v (.int .i64 i128), .v (.slice A159 x144.2.1.length c160), .v (.int .i64 (x144.2.1.length : Int)), .v (.int .i64 i168)] vals252, .sav [.ip 81 2 0] vals260, (bif false then .gone else bif true then .row 88 3 1 [(.agg #[.int .i64 e72.best.x0, .int .i64 (wr (e72.best.x1 + y211.Cost)), .int .i64 y177.x0])] else .gone)]) hp453 h171 tabOk rfl rfl rfl rfl rfl rfl rfl rfl rfl rfl rfl rfl rfl rfl rfl [(4, bif b0' then some (.p 2 0) else none), (5, bif b1' then some (.p 2 0) else none), (6, bif b2' then some (.p 2 0) else none), (8, bif b4' then some (.v (.iface 88 (.agg #[.int .i64 e72.best.x0, .int .i64 (wr (e72.best.x1 + y211.Cost)), .int .i64 y177.x0]))) else none), (9, bif b5' then some (.v (.agg #[.int .i64 e72.best.x0, .int .i64 (wr (e72.best.x1 + y211.Cost)), .int .i64 y177.x0])) else none), (12, bif false then some (.p 2 0) else none), (0, some (.p 2 0)), (1, some (.v (.iface 88 (.agg #[.int .i64 e72.best.x0, .int .i64 (wr (e72.best.x1 + y211.Cost)), .int .i64 y177.x0]))))] (by repeat' (first | exact kpE_nil | refine kpE_cons ?_ ?_ | exact kpO_none | exact kpO_some rfl | refine kpO_if ?_ ?_)) ⟨rfl, rfl, rfl, rfl, rfl, rfl, rfl, rfl, trivial⟩ (by intro blk val; repeat' (first | exact killR_nil | refine killR_cons ?_ ?_ | exact rfl | refine killN_if ?_ ?_)) (fun vl472 => ?_)
                                      exact EL.nil (EX.sub' (hK _ _ _ ⟨vl472, rfl, rfl, hle470, w3_2, (fun _ => rfl)⟩) ⟨rfl, rfl, rfl, rfl, rfl, rfl, rfl, rfl, rfl, rfl, rfl, trivial⟩)
                                    · intro b0' b1' b2' b3' b4' b5' b6' b7' b8' b9'
                                      rintro ⟨⟩ ⟨⟩ ⟨⟩ ⟨⟩ ⟨⟩ ⟨⟩ ⟨⟩ ⟨⟩ ⟨⟩ ⟨⟩ ⟨⟩
                                      rintro _ _ G474 ⟨vl455, rfl, rfl, hle473, w3_2, w7_3⟩ K hK
                                      exact EL.step tabOk rfl (EL.nil (EX.sub' (hK _ _ _ ⟨vl455, rfl, rfl, hle473, w3_2, w7_3⟩) ⟨rfl, rfl, rfl, rfl, rfl, rfl, rfl, rfl, rfl, rfl, rfl, trivial⟩))
                                    · intro b0' b1' b2' b3' b4' b5' b6' b7' b8' b9'
                                      rintro ⟨⟩ ⟨⟩ ⟨⟩ ⟨⟩ ⟨⟩ ⟨⟩ ⟨⟩ ⟨⟩ ⟨⟩ ⟨⟩ ⟨⟩ ⟨⟩
                                      rintro _ _ G476 ⟨vl455, rfl, rfl, hle475, w3_2, w7_3⟩ K hK
                                      exact EL.step tabOk rfl (EL.nil (EX.sub' (hK _ _ _ ⟨vl455, rfl, rfl, hle475, w3_2, w7_3⟩) ⟨rfl, rfl, rfl, rfl, rfl, rfl, rfl, rfl, rfl, rfl, rfl, trivial⟩))
                                  rintro _ _ G478 ⟨vl455, rfl, rfl, hle477, w3_2, w7_3⟩
                                  have h3 := Rep.mono hle477 h3
                                  have h6 := Rep.mono hle477 h6
                                  have h454 := Els.mono h454 hle477
                                  have h86 := Els.mono h86 hle477
                                  have h120 := Rep.mono hle477 h120
                                  have h161 := Rep.mono hle477 h161
                                  exact EX.backVN hB262 ⟨vals260, l452, (es170 ++ [.agg #[.int .i64 e72.best.x0, .int .i64 (wr (e72.best.x1 + y211.Cost)), .int .i64 y177.x0]]), rfl, rfl, rfl, hle477, h454, H⟩ tabOk rfl ⟨.inr rfl, .inr rfl, .inr rfl, .inr rfl, .inr rfl, .inr rfl, .inr rfl, .inr rfl, .inr rfl, .inr rfl, .inr rfl, .inr rfl, trivial⟩ rfl rfl
                            · skip
                              exact E.skip (EX.fewer (hj191 _ _ _ ⟨l169, es170, rfl, rfl, (GLe.refl _), h171, H⟩) ⟨⟨_, rfl, rfl⟩, ⟨_, rfl, rfl⟩, ⟨_, rfl, rfl⟩, ⟨_, rfl, rfl⟩, ⟨_, rfl, rfl⟩, ⟨_, rfl, rfl⟩, ⟨_, rfl, rfl⟩, ⟨_, rfl, rfl⟩, ⟨_, rfl, rfl⟩, ⟨_, rfl, rfl⟩, ⟨_, rfl, rfl⟩, ⟨_, rfl, rfl⟩, trivial⟩ ⟨.inr rfl, .inr rfl, .inr rfl, .inr rfl, .inr rfl, .inr rfl, .inr rfl, .inr rfl, .inr rfl, .inr rfl, trivial⟩ rfl rfl)
                        · skip
                          refine E.region (EL.run tabOk 3 rfl (EL.split (s := 89) rfl H (fun hb H => ?_) (fun hb H => ?_)))
                          · skip
                            exact EL.run tabOk 3 rfl (EL.lookup (enc := Value.bool) (m := mset m41 e72.at_ true) (z0 := false) tabOk rfl rfl rfl rfl rfl rfl rfl rfl (fun _ => rfl) (EL.run tabOk 2 rfl (EL.nil (EX.fewer (hj185 _ _ _ ⟨!((mget (mset m41 e72.at_ true) y177.x0).getD false), rfl, rfl, (GLe.refl _), H⟩) ⟨⟨_, rfl, rfl⟩, ⟨_, rfl, rfl⟩, ⟨_, rfl, rfl⟩, ⟨_, rfl, rfl⟩, ⟨_, rfl, rfl⟩, ⟨_, rfl, rfl⟩, ⟨_, rfl, rfl⟩, ⟨_, rfl, rfl⟩, ⟨_, rfl, rfl⟩, ⟨_, rfl, rfl⟩, ⟨_, rfl, rfl⟩, ⟨_, rfl, rfl⟩, ⟨_, rfl, rfl⟩, ⟨_, rfl, rfl⟩, trivial⟩ ⟨.inr rfl, .inr rfl, .inr rfl, .inr rfl, .inr rfl, .inr rfl, .inr rfl, .inr rfl, .inr rfl, .inr rfl, trivial⟩ rfl rfl))))
                          · skip
                            exact EL.run tabOk 6 rfl (EL.nil (EX.fewer (hj185 _ _ _ ⟨false, rfl, rfl, (GLe.refl _), H⟩) ⟨⟨_, rfl, rfl⟩, ⟨_, rfl, rfl⟩, ⟨_, rfl, rfl⟩, ⟨_, rfl, rfl⟩, ⟨_, rfl, rfl⟩, ⟨_, rfl, rfl⟩, ⟨_, rfl, rfl⟩, ⟨_, rfl, rfl⟩, ⟨_, rfl, rfl⟩, ⟨_, rfl, rfl⟩, ⟨_, rfl, rfl⟩, ⟨_, rfl, rfl⟩, ⟨_, rfl, rfl⟩, ⟨_, rfl, rfl⟩, trivial⟩ ⟨.inr rfl, .inr rfl, .inr rfl, .inr rfl, .inr rfl, .inr rfl, .inr rfl, .inr rfl, .inr rfl, .inr rfl, trivial⟩ rfl rfl))
                      · skip
                        exact E.exit (EX.out (EX.out (EX.hit (EX.fewer (hj165 _ _ _ ⟨l169, es170, rfl, rfl, hle172, h171, H⟩) ⟨⟨_, rfl, rfl⟩, ⟨_, rfl, rfl⟩, ⟨_, rfl, rfl⟩, ⟨_, rfl, rfl⟩, ⟨_, rfl, rfl⟩, ⟨_, rfl, rfl⟩, ⟨_, rfl, rfl⟩, ⟨_, rfl, rfl⟩, trivial⟩ ⟨.inr rfl, .inr rfl, .inr rfl, .inr rfl, .inr rfl, .inr rfl, .inr rfl, .inr rfl, .inr rfl, trivial⟩ rfl rfl))))
                  · skip
                    exact E.exit (EX.out (EX.out (EX.hit (EX.fewer (hj125 _ _ _ ⟨l129, es130, rfl, rfl, hle132, h131, H⟩) ⟨⟨_, rfl, rfl⟩, ⟨_, rfl, rfl⟩, ⟨_, rfl, rfl⟩, ⟨_, rfl, rfl⟩, trivial⟩ ⟨.inr rfl, .inr rfl, .inr rfl, .inr rfl, .inr rfl, .inr rfl, .inr rfl, .inr rfl, trivial⟩ rfl rfl))))
            · skip
              intro K67 vals66 hB68
              refine E.seq (E.region (EL.run tabOk 1 rfl (EL.nil (EX.seq (E.seq (E.region (EL.run tabOk 1 rfl (EL.inv [0] rfl rfl rfl rfl rfl (mth_val tabOk mth_81_Len rfl rfl) Try.func81 tree_ways_Len_enters rfl Try.ntmps81 rfl rfl (fun L Γ ks s => ∃ (vals479 : List Value) (l482 : (List tree_way)) (i485 : Int) (es483 : List Value), L = [.box 25 [.v (.int .i64 p0.Segs), .v (.slice A1 p0.Plans.length c2), .v (.slice A4 p0.Hosts.length c5)], .row 88 3 l482.length es483, .box 83 [.row 1], .row 61 2 l38.length es39, .mp (mE Value.bool m41), .gone, .sav [.p 0 0, .ip 81 2 0, .row 3, .mp 4] vals66, .sav [.ip 81 2 0] vals479] ∧ ks = [.ip 81 2 0] ∧ s = .v (.int .i64 i485) ∧ GLe G55 Γ ∧ Els Γ l482 es483 ∧ tree_bests_j29 k p0 l38 m41 (loopN (fun _ _ _ => none) (tree_bests_s31 k p0) n46) l482 i485 = some r) ?_ ?_))))))))
              · skip
                rintro _ G487 _ _ ⟨vals479, l482, i485, es483, rfl, rfl, rfl, hle486, h484, H⟩
                unfold tree_bests_j29 at H
                have h3 := Rep.mono hle486 h3; have h6 := Rep.mono hle486 h6; have h40 := Els.mono h40 hle486
                refine EL.run tabOk 2 rfl (EL.nil (EX.seq (E.seq (E.region (EL.run tabOk 2 rfl (EL.inv [0, 3] rfl rfl rfl rfl rfl (mth_val tabOk mth_81_Swap rfl rfl) Try.func85 tree_ways_Swap_enters rfl Try.ntmps85 rfl rfl (fun L Γ ks s => ∃ (vals488 : List Value) (l491 : (List tree_way)) (es492 : List Value), L = [.box 25 [.v (.int .i64 p0.Segs), .v (.slice A1 p0.Plans.length c2), .v (.slice A4 p0.Hosts.length c5)], .row 88 3 l491.length es492, .box 83 [.row 1], .row 61 2 l38.length es39, .mp (mE Value.bool m41), .gone, .sav [.p 0 0, .ip 81 2 0, .row 3, .mp 4] vals66, .gone, .sav [.ip 81 2 0, .v (.int .i64 (wr (i485 - 1)))] vals488] ∧ ks = [.ip 81 2 0, .v (.int .i64 (wr (i485 - 1)))] ∧ s = .v (.tuple #[]) ∧ GLe G487 Γ ∧ Els Γ l491 es492 ∧ tree_bests_j28 k p0 l38 m41 (loopN (fun _ _ _ => none) (tree_bests_s31 k p0) n46) i485 l491 = some r) ?_ ?_))))))
                · skip
                  rintro _ G495 _ _ ⟨vals488, l491, es492, rfl, rfl, rfl, hle494, h493, H⟩
                  unfold tree_bests_j28 at H
                  have h3 := Rep.mono hle494 h3; have h6 := Rep.mono hle494 h6; have h40 := Els.mono h40 hle494
                  refine EL.nil (EX.seq (E.seq (E.region (EL.run tabOk 2 rfl (EL.inl [0] rfl rfl rfl rfl rfl rfl Try.func54 container_heap_down_enters rfl Try.ntmps54 rfl rfl (fun L Γ ks s => ∃ (vals496 : List Value) (l499 : (List tree_way)) (b502 : Bool) (es500 : List Value), L = [.box 25 [.v (.int .i64 p0.Segs), .v (.slice A1 p0.Plans.length c2), .v (.slice A4 p0.Hosts.length c5)], .row 88 3 l499.length es500, .box 83 [.row 1], .row 61 2 l38.length es39, .mp (mE Value.bool m41), .gone, .sav [.p 0 0, .ip 81 2 0, .row 3, .mp 4] vals66, .gone, .gone, .sav [.ip 81 2 0] vals496] ∧ ks = [.ip 81 2 0] ∧ s = .v (.bool b502) ∧ GLe G495 Γ ∧ Els Γ l499 es500 ∧ tree_bests_j20 k p0 l38 m41 (loopN (fun _ _ _ => none) (tree_bests_s31 k p0) n46) l499 b502 = some r) ?_ ?_)))))
                  · skip
                    rintro _ G504 _ _ ⟨vals496, l499, b502, es500, rfl, rfl, rfl, hle503, h501, H⟩
                    unfold tree_bests_j20 at H
                    have h3 := Rep.mono hle503 h3; have h6 := Rep.mono hle503 h6; have h40 := Els.mono h40 hle503
                    refine EL.nil (EX.seq (E.seq (E.region (EL.run tabOk 1 rfl (EL.inv [] rfl rfl rfl rfl rfl (mth_ptr mth_81_Pop rfl) Try.func83 tree_ways_Pop_enters rfl Try.ntmps83 rfl rfl (fun L Γ ks s => ∃ (vals505 : List Value) (l508 : (List tree_way)) (e511 : tree_way) (es509 : List Value), L = [.box 25 [.v (.int .i64 p0.Segs), .v (.slice A1 p0.Plans.length c2), .v (.slice A4 p0.Hosts.length c5)], .row 88 3 l508.length es509, .box 83 [.row 1], .row 61 2 l38.length es39, .mp (mE Value.bool m41), .gone, .sav [.p 0 0, .ip 81 2 0, .row 3, .mp 4] vals66, .gone, .gone, .gone, .sav [] vals505] ∧ ks = [] ∧ s = .v (.iface 88 (.agg #[.int .i64 e511.best.x0, .int .i64 e511.best.x1, .int .i64 e511.at_])) ∧ GLe G504 Γ ∧ Els Γ l508 es509 ∧ tree_bests_j19 k p0 l38 m41 (loopN (fun _ _ _ => none) (tree_bests_s31 k p0) n46) l508 e511 = some r) ?_ ?_)))))
                    · skip
                      rintro _ G513 _ _ ⟨vals505, l508, e511, es509, rfl, rfl, rfl, hle512, h510, H⟩
                      unfold tree_bests_j19 at H
                      have h3 := Rep.mono hle512 h3; have h6 := Rep.mono hle512 h6; have h40 := Els.mono h40 hle512
                      exact EL.run tabOk 1 rfl (EL.nil (EX.seq (E.ret (EX.back hB68 ⟨vals66, l508, e511, es509, rfl, rfl, rfl, (GLe.trans (GLe.trans (GLe.trans hle486 hle494) hle503) hle512), h510, H⟩ tabOk rfl rfl (fun _ => rfl) ⟨.inr rfl, .inr rfl, .inr rfl, .inr rfl, .inr rfl, .inr rfl, .inr rfl, trivial⟩ rfl rfl rfl))))
                    · skip
                      intro K506 vals505 hB507
                      refine E.seq (E.region (EL.run tabOk 1 rfl (EL.nil (EX.seq (E.seq (E.region (EL.run tabOk 4 rfl (EL.nil (EX.seq (E.seq (E.region (EL.run tabOk 4 rfl ?_))))))))))))
                      obtain ⟨y514, hy515, H⟩ := bind_some H
                      obtain ⟨g516, g517, g518, g519⟩ := idx_some hy515; obtain ⟨u520, hj521, hu522⟩ := All2.get h501 g519
                      refine EL.indexRow g516 g518 tabOk rfl rfl rfl rfl rfl rfl rfl rfl ?_
                      obtain rfl : _ = _ := hu522
                      refine EL.loadRow (j := (wr (((l499.length : Nat) : Int) - 1) : Int).toNat) (off := 0) (sz := 3) hj521 (part_whole _) tabOk rfl rfl rfl rfl rfl rfl rfl rfl (EL.run tabOk 2 rfl (EL.nil (EX.seq (E.seq (E.region (EL.run tabOk 5 rfl ?_))))))
                      obtain ⟨l523, hp524, H⟩ := bind_some H
                      refine EL.rowPrefix hp524 h501 tabOk rfl rfl rfl rfl rfl rfl rfl rfl rfl (fun k525 v526 h527 => ?_)
                      exact EL.run tabOk 2 rfl (EL.nil (EX.seq (E.seq (E.region (EL.run tabOk 3 rfl (EL.nil (EX.seq (E.ret (EX.back hB507 ⟨vals505, l523, y514, (es500.take (wr (((l499.length : Nat) : Int) - 1) : Int).toNat), rfl, rfl, rfl, (GLe.refl _), h527, H⟩ tabOk rfl rfl (fun _ => rfl) ⟨.inr rfl, .inr rfl, .inr rfl, .inr rfl, .inr rfl, .inr rfl, .inr rfl, .inr rfl, .inr rfl, .inl trivial, .inr rfl, trivial⟩ rfl rfl rfl)))))))))
                  · skip
                    intro K497 vals496 hB498
                    refine E.seq (E.region (EL.run tabOk 1 rfl (EL.nil (EX.seq (E.seq (E.region (EL.run tabOk 2 rfl (EL.nil (EX.seq (E.seq (E.join (fun env L Γ => ∃ (i528 : Int) (l529 : (List tree_way)) (es530 : List Value), env = [(1, some (.v (.int .i64 0))), (7, some (.v (.int .i64 i528)))] ∧ L = [.box 25 [.v (.int .i64 p0.Segs), .v (.slice A1 p0.Plans.length c2), .v (.slice A4 p0.Hosts.length c5)], .row 88 3 l529.length es530, .box 83 [.row 1], .row 61 2 l38.length es39, .mp (mE Value.bool m41), .gone, .sav [.p 0 0, .ip 81 2 0, .row 3, .mp 4] vals66, .gone, .gone, .sav [.ip 81 2 0] vals496] ∧ GLe G495 Γ ∧ Els Γ l529 es530 ∧ tree_bests_j21 k p0 l38 m41 (loopN (fun _ _ _ => none) (tree_bests_s31 k p0) n46) i528 l529 = some r) ?_ (fun hj532 => ?_))))))))))))
                    · skip
                      rintro _ _ G534 ⟨i528, l529, es530, rfl, rfl, hle533, h531, H⟩
                      unfold tree_bests_j21 at H
                      have h3 := Rep.mono hle533 h3; have h6 := Rep.mono hle533 h6; have h40 := Els.mono h40 hle533
                      exact EX.seq (E.seq (E.region (EL.run tabOk 4 rfl (EL.nil (EX.seq (E.ret (EX.back hB498 ⟨vals496, l529, decide (i528 > 0), es530, rfl, rfl, rfl, hle533, h531, H⟩ tabOk rfl rfl (fun _ => rfl) ⟨.inr rfl, .inr rfl, .inr rfl, .inr rfl, .inr rfl, .inr rfl, .inr rfl, .inr rfl, .inr rfl, .inr rfl, trivial⟩ rfl rfl rfl)))))))
                    · skip
                      refine E.block (E.fewer (E.loop (fun n env L Γ => ∃ (i535 : Int) (l536 : (List tree_way)) (es537 : List Value), env = [(0, some (.ip 81 2 0)), (1, some (.v (.int .i64 0))), (2, some (.v (.int .i64 (wr (i485 - 1))))), (7, some (.v (.int .i64 i535)))] ∧ L = [.box 25 [.v (.int .i64 p0.Segs), .v (.slice A1 p0.Plans.length c2), .v (.slice A4 p0.Hosts.length c5)], .row 88 3 l536.length es537, .box 83 [.row 1], .row 61 2 l38.length es39, .mp (mE Value.bool m41), .gone, .sav [.p 0 0, .ip 81 2 0, .row 3, .mp 4] vals66, .gone, .gone, .sav [.ip 81 2 0] vals496] ∧ GLe G495 Γ ∧ Els Γ l536 es537 ∧ loopN (fun _ _ => none) (tree_bests_s27 k p0 l38 m41 (loopN (fun _ _ _ => none) (tree_bests_s31 k p0) n46) i485) n i535 l536 = some r) k ⟨0, l491, es492, rfl, rfl, GLe.refl _, h493, H⟩ ?_) ⟨⟨_, rfl, rfl⟩, ⟨_, rfl, rfl⟩, ⟨_, rfl, rfl⟩, ⟨_, rfl, rfl⟩, trivial⟩ ⟨.inr rfl, .inr rfl, .inr rfl, .inr rfl, .inr rfl, .inr rfl, .inr rfl, .inr rfl, .inl trivial, .inr rfl, trivial⟩ rfl rfl)
                      rintro n543 _ _ G541 ⟨i535, l536, es537, rfl, rfl, hle539, h538, H⟩ K hK542
                      obtain _ | n543 := n543
                      · exact none_ne H
                      rw [loopN] at H; unfold tree_bests_s27 at H
                      have h3 := Rep.mono hle539 h3; have h6 := Rep.mono hle539 h6; have h40 := Els.mono h40 hle539
                      refine E.block (E.seq (E.region (EL.run tabOk 4 rfl (EL.nil (EX.seq (E.seq (E.seq (E.region (EL.run tabOk 7 rfl (EL.nil (EX.seq (E.cond rfl H (fun hb H => ?_) (fun hb H => ?_)))))))))))))
                      · skip
                        exact E.exit (EX.out (EX.miss rfl (EX.out (EX.hit (EX.fewer (hj532 _ _ _ ⟨i535, l536, es537, rfl, rfl, hle539, h538, H⟩) ⟨⟨_, rfl, rfl⟩, ⟨_, rfl, rfl⟩, trivial⟩ ⟨.inr rfl, .inr rfl, .inr rfl, .inr rfl, .inr rfl, .inr rfl, .inr rfl, .inr rfl, .inr rfl, .inr rfl, trivial⟩ rfl rfl)))))
                      · skip
                        refine E.skip (EX.seq (E.seq (E.region (EL.run tabOk 2 rfl (EL.nil (EX.seq (E.seq (E.seq (E.region (EL.run tabOk 3 rfl (EL.nil (EX.seq (E.seq (E.join (fun env L Γ => ∃ (b544 : Bool) (l545 : (List tree_way)) (es546 : List Value), env = [(0, some (.ip 81 2 0)), (1, some (.v (.int .i64 0))), (2, some (.v (.int .i64 (wr (i485 - 1))))), (7, some (.v (.int .i64 i535))), (9, some (.v (.int .i64 (wr ((wr (2 * i535)) + 1))))), (10, some (.v (.int .i64 (wr ((wr ((wr (2 * i535)) + 1)) + 1))))), (33, some (.v (.bool b544)))] ∧ L = [.box 25 [.v (.int .i64 p0.Segs), .v (.slice A1 p0.Plans.length c2), .v (.slice A4 p0.Hosts.length c5)], .row 88 3 l545.length es546, .box 83 [.row 1], .row 61 2 l38.length es39, .mp (mE Value.bool m41), .gone, .sav [.p 0 0, .ip 81 2 0, .row 3, .mp 4] vals66, .gone, .gone, .sav [.ip 81 2 0] vals496] ∧ GLe G541 Γ ∧ Els Γ l545 es546 ∧ tree_bests_j25 k p0 l38 m41 (loopN (fun _ _ _ => none) (tree_bests_s31 k p0) n46) i535 (loopN (fun _ _ => none) (tree_bests_s27 k p0 l38 m41 (loopN (fun _ _ _ => none) (tree_bests_s31 k p0) n46) i485) n543) b544 l545 = some r) ?_ (fun hj548 => ?_)))))))))))))))
                        · skip
                          rintro _ _ G550 ⟨b544, l545, es546, rfl, rfl, hle549, h547, H⟩
                          unfold tree_bests_j25 at H
                          have h3 := Rep.mono hle549 h3; have h6 := Rep.mono hle549 h6; have h40 := Els.mono h40 hle549
                          refine EX.seq (E.join (fun env L Γ => ∃ (i551 : Int), env = [(0, some (.ip 81 2 0)), (1, some (.v (.int .i64 0))), (2, some (.v (.int .i64 (wr (i485 - 1))))), (7, some (.v (.int .i64 i535))), (9, some (.v (.int .i64 i551)))] ∧ L = [.box 25 [.v (.int .i64 p0.Segs), .v (.slice A1 p0.Plans.length c2), .v (.slice A4 p0.Hosts.length c5)], .row 88 3 l545.length es546, .box 83 [.row 1], .row 61 2 l38.length es39, .mp (mE Value.bool m41), .gone, .sav [.p 0 0, .ip 81 2 0, .row 3, .mp 4] vals66, .gone, .gone, .sav [.ip 81 2 0] vals496] ∧ GLe G550 Γ ∧ tree_bests_j24 k p0 l38 m41 (loopN (fun _ _ _ => none) (tree_bests_s31 k p0) n46) i535 (loopN (fun _ _ => none) (tree_bests_s27 k p0 l38 m41 (loopN (fun _ _ _ => none) (tree_bests_s31 k p0) n46) i485) n543) l545 i551 = some r) ?_ (fun hj552 => ?_))
                          · skip
                            rintro _ _ G554 ⟨i551, rfl, rfl, hle553, H⟩
                            unfold tree_bests_j24 at H
                            have h3 := Rep.mono hle553 h3; have h6 := Rep.mono hle553 h6; have h547 := Els.mono h547 hle553; have h40 := Els.mono h40 hle553
                            refine EX.seq (E.seq (E.seq (E.region (EL.run tabOk 3 rfl (EL.inv [0, 1, 2, 7, 9] rfl rfl rfl rfl rfl (mth_val tabOk mth_81_Less rfl rfl) Try.func82 tree_ways_Less_enters rfl Try.ntmps82 rfl rfl (fun L Γ ks s => ∃ (vals555 : List Value) (l558 : (List tree_way)) (b561 : Bool) (es559 : List Value), L = [.box 25 [.v (.int .i64 p0.Segs), .v (.slice A1 p0.Plans.length c2), .v (.slice A4 p0.Hosts.length c5)], .row 88 3 l558.length es559, .box 83 [.row 1], .row 61 2 l38.length es39, .mp (mE Value.bool m41), .gone, .sav [.p 0 0, .ip 81 2 0, .row 3, .mp 4] vals66, .gone, .gone, .sav [.ip 81 2 0] vals496, .sav [.ip 81 2 0, .v (.int .i64 0), .v (.int .i64 (wr (i485 - 1))), .v (.int .i64 i535), .v (.int .i64 i551)] vals555] ∧ ks = [.ip 81 2 0, .v (.int .i64 0), .v (.int .i64 (wr (i485 - 1))), .v (.int .i64 i535), .v (.int .i64 i551)] ∧ s = .v (.bool b561) ∧ GLe G554 Γ ∧ Els Γ l558 es559 ∧ tree_bests_j23 k p0 l38 m41 (loopN (fun _ _ _ => none) (tree_bests_s31 k p0) n46) i535 (loopN (fun _ _ => none) (tree_bests_s27 k p0 l38 m41 (loopN (fun _ _ _ => none) (tree_bests_s31 k p0) n46) i485) n543) i551 l558 b561 = some r) ?_ ?_)))))
                            · skip
                              rintro _ G563 _ _ ⟨vals555, l558, b561, es559, rfl, rfl, rfl, hle562, h560, H⟩
                              unfold tree_bests_j23 at H
                              have h3 := Rep.mono hle562 h3; have h6 := Rep.mono hle562 h6; have h40 := Els.mono h40 hle562
                              refine EL.run tabOk 1 rfl (EL.nil (EX.seq (E.cond rfl H (fun hb H => ?_) (fun hb H => ?_))))
                              · skip
                                exact E.exit (EX.out (EX.miss rfl (EX.out (EX.hit (EX.fewer (hj532 _ _ _ ⟨i535, l558, es559, rfl, rfl, (GLe.trans (GLe.trans (GLe.trans hle539 hle549) hle553) hle562), h560, H⟩) ⟨⟨_, rfl, rfl⟩, ⟨_, rfl, rfl⟩, trivial⟩ ⟨.inr rfl, .inr rfl, .inr rfl, .inr rfl, .inr rfl, .inr rfl, .inr rfl, .inr rfl, .inr rfl, .inr rfl, trivial⟩ rfl rfl)))))
                              · skip
                                refine E.skip (EX.seq (E.seq (E.region (EL.run tabOk 3 rfl (EL.inv [0, 1, 2, 9] rfl rfl rfl rfl rfl (mth_val tabOk mth_81_Swap rfl rfl) Try.func85 tree_ways_Swap_enters rfl Try.ntmps85 rfl rfl (fun L Γ ks s => ∃ (vals564 : List Value) (l567 : (List tree_way)) (es568 : List Value), L = [.box 25 [.v (.int .i64 p0.Segs), .v (.slice A1 p0.Plans.length c2), .v (.slice A4 p0.Hosts.length c5)], .row 88 3 l567.length es568, .box 83 [.row 1], .row 61 2 l38.length es39, .mp (mE Value.bool m41), .gone, .sav [.p 0 0, .ip 81 2 0, .row 3, .mp 4] vals66, .gone, .gone, .sav [.ip 81 2 0] vals496, .gone, .sav [.ip 81 2 0, .v (.int .i64 0), .v (.int .i64 (wr (i485 - 1))), .v (.int .i64 i551)] vals564] ∧ ks = [.ip 81 2 0, .v (.int .i64 0), .v (.int .i64 (wr (i485 - 1))), .v (.int .i64 i551)] ∧ s = .v (.tuple #[]) ∧ GLe G563 Γ ∧ Els Γ l567 es568 ∧ tree_bests_j22 k (loopN (fun _ _ => none) (tree_bests_s27 k p0 l38 m41 (loopN (fun _ _ _ => none) (tree_bests_s31 k p0) n46) i485) n543) i551 l567 = some r) ?_ ?_)))))
                                · skip
                                  rintro _ G571 _ _ ⟨vals564, l567, es568, rfl, rfl, rfl, hle570, h569, H⟩
                                  unfold tree_bests_j22 at H
                                  have h3 := Rep.mono hle570 h3; have h6 := Rep.mono hle570 h6; have h40 := Els.mono h40 hle570
                                  exact EL.nil (EX.seq (E.region (EL.run tabOk 2 rfl (EL.nil (EX.block (EX.fewer (hK542 n543 _ _ _ (Nat.lt_succ_self _) ⟨i551, l567, es568, rfl, rfl, (GLe.trans (GLe.trans (GLe.trans (GLe.trans hle539 hle549) hle553) hle562) hle570), h569, H⟩) ⟨⟨_, rfl, rfl⟩, ⟨_, rfl, rfl⟩, ⟨_, rfl, rfl⟩, ⟨_, rfl, rfl⟩, trivial⟩ ⟨.inr rfl, .inr rfl, .inr rfl, .inr rfl, .inr rfl, .inr rfl, .inr rfl, .inr rfl, .inr rfl, .inr rfl, trivial⟩ rfl rfl))))))
                                · skip
                                  intro K565 vals564 hB566
                                  obtain ⟨y572, hy573, H⟩ := bind_some H
                                  obtain ⟨g574, g575, g576, g577⟩ := idx_some hy573; obtain ⟨u578, hj579, hu580⟩ := All2.get h560 g577
                                  obtain rfl : _ = _ := hu580
                                  obtain ⟨y581, hy582, H⟩ := bind_some H
                                  obtain ⟨g583, g584, g585, g586⟩ := idx_some hy582; obtain ⟨u587, hj588, hu589⟩ := All2.get h560 g586
                                  obtain rfl : _ = _ := hu589
                                  obtain ⟨y590, hy591, H⟩ := bind_some H
                                  obtain ⟨g592, g593, g594, g595⟩ := idx_some hy591; obtain ⟨u596, hj597, hu598⟩ := All2.get h560 g595
                                  obtain rfl : _ = _ := hu598
                                  obtain ⟨l599, hx600, H⟩ := bind_some H
                                  have h601 := upd_els hx600 h560 (show R G563 y572 (.agg #[.int .i64 y572.best.x0, .int .i64 y572.best.x1, .int .i64 y572.at_]) from rfl)
                                  obtain ⟨y602, hy603, H⟩ := bind_some H
                                  obtain ⟨g604, g605, g606, g607⟩ := idx_some hy603; obtain ⟨u608, hj609, hu610⟩ := All2.get h601 g607
                                  obtain rfl : _ = _ := hu610
                                  obtain ⟨l611, hx612, H⟩ := bind_some H
                                  have h613 := upd_els hx612 h601 (show R G563 y581 (.agg #[.int .i64 y581.best.x0, .int .i64 y581.best.x1, .int .i64 y581.at_]) from rfl)
                                  refine E.fewer (env' := [(0, some (.row 1)), (1, some (.v (.int .i64 i535))), (2, some (.v (.int .i64 i551)))]) (L' := [.box 25 [.v (.int .i64 p0.Segs), .v (.slice A1 p0.Plans.length c2), .v (.slice A4 p0.Hosts.length c5)], .row 88 3 l558.length es559, .box 83 [.row 1], .row 61 2 l38.length es39, .mp (mE Value.bool m41), .gone, .sav [.p 0 0, .ip 81 2 0, .row 3, .mp 4] vals66, .gone, .gone, .sav [.ip 81 2 0] vals496, .sav [.ip 81 2 0, .v (.int .i64 0), .v (.int .i64 (wr (i485 - 1))), .v (.int .i64 i535), .v (.int .i64 i551)] vals555, .sav [.ip 81 2 0, .v (.int .i64 0), .v (.int .i64 (wr (i485 - 1))), .v (.int .i64 i551)] vals564]) (E.sub' ((E.draw mixed (fun (bs : List Bool) (env : Env) (L : List Ent) (Γ : Ghost) => match bs with | [b0', b1', b2', b3', b4', b5', b6', b7', b8', b9', b10', b11', b12', b13', b14', b15'] =>  env = [(6, bif b0' then some (.row 1) else none), (7, bif b1' then some (.v (.int .i64 i535)) else none), (8, bif b2' then some (.row 1) else none), (9, bif b3' then some (.v (.int .i64 i551)) else none), (10, bif b4' then some (.row 1) else none), (11, bif b5' then some (.v (.int .i64 i551)) else none), (12, bif b6' then some (.p 1 ((i551 : Int).toNat * 3)) else none), (13, bif b7' then some (.v (.agg #[.int .i64 y572.best.x0, .int .i64 y572.best.x1, .int .i64 y572.at_])) else none), (14, bif b8' then some (.row 1) else none), (15, bif b9' then some (.v (.int .i64 i535)) else none), (16, bif b10' then some (.p 1 ((i535 : Int).toNat * 3)) else none), (17, bif b11' then some (.v (.agg #[.int .i64 y581.best.x0, .int .i64 y581.best.x1, .int .i64 y581.at_])) else none), (18, bif b12' then some (.p 1 ((i535 : Int).toNat * 3)) else none), (19, bif b14' then some (.p 1 ((i551 : Int).toNat * 3)) else none), (0, some (.row 1)), (1, some (.v (.int .i64 i535))), (2, some (.v (.int .i64 i551)))] ∧ L = [.box 25 [.v (.int .i64 p0.Segs), .v (.slice A1 p0.Plans.length c2), .v (.slice A4 p0.Hosts.length c5)], (bif b15' then .row 88 3 l611.length ((es559.set (i535 : Int).toNat (.agg #[.int .i64 y572.best.x0, .int .i64 y572.best.x1, .int .i64 y572.at_])).set (i551 : Int).toNat (.agg #[.int .i64 y581.best.x0, .int .i64 y581.best.x1, .int .i64 y581.at_])) else bif b13' then .row 88 3 l599.length (es559.set (i535 : Int).toNat (.agg #[.int .i64 y572.best.x0, .int .i64 y572.best.x1, .int .i64 y572.at_])) else .row 88 3 l558.length es559), .box 83 [.row 1], .row 61 2 l38.length es39, .mp (mE Value.bool m41), .gone, .sav [.p 0 0, .ip 81 2 0, .row 3, .mp 4] vals66, .gone, .gone, .sav [.ip 81 2 0] vals496, .sav [.ip 81 2 0, .v (.int .i64 0), .v (.int .i64 (wr (i485 - 1))), .v (.int .i64 i535), .v (.int .i64 i551)] vals555, .sav [.ip 81 2 0, .v (.int .i64 0), .v (.int .i64 (wr (i485 - 1))), .v (.int .i64 i551)] vals564] ∧ GLe G563 Γ ∧ (b11' = true → b10' = true) ∧ (b13' = true → b11' = true) | _ => False) ⟨rfl, rfl, GLe.refl _, (fun h => nomatch h), (fun h => nomatch h)⟩ rfl ?_ ?_)) ⟨rfl, rfl, rfl, rfl, rfl, rfl, rfl, rfl, rfl, rfl, rfl, rfl, rfl, rfl, rfl, rfl, rfl, trivial⟩) ⟨⟨_, rfl, rfl⟩, ⟨_, rfl, rfl⟩, ⟨_, rfl, rfl⟩, trivial⟩ ⟨.inr rfl, .inr rfl, .inr rfl, .inr rfl, .inr rfl, .inr rfl, .inr rfl, .inr rfl, .inr rfl, .inr rfl, .inr rfl, .inr rfl, trivial⟩ rfl rfl
                                  · refine ⟨?_, ?_, ?_, ?_, ?_, ?_, ?_, ?_, ?_, ?_, ?_, ?_, ?_, ?_, ?_, ?_, trivial⟩
                                    · intro b0' b1' b2' b3' b4' b5' b6' b7' b8' b9' b10' b11' b12' b13' b14' b15'
                                      rintro ⟨⟩ ⟨⟩ ⟨⟩ ⟨⟩ ⟨⟩
                                      rintro _ _ G615 ⟨rfl, rfl, hle614, w11_10, w13_11⟩ K hK
                                      exact EL.step tabOk rfl (EL.nil (EX.sub' (hK _ _ _ ⟨rfl, rfl, hle614, w11_10, w13_11⟩) ⟨rfl, rfl, rfl, rfl, rfl, rfl, rfl, rfl, rfl, rfl, rfl, rfl, rfl, rfl, rfl, rfl, rfl, trivial⟩))
                                    · intro b0' b1' b2' b3' b4' b5' b6' b7' b8' b9' b10' b11' b12' b13' b14' b15'
                                      rintro ⟨⟩ ⟨⟩ ⟨⟩ ⟨⟩ ⟨⟩
                                      rintro _ _ G617 ⟨rfl, rfl, hle616, w11_10, w13_11⟩ K hK
                                      exact EL.step tabOk rfl (EL.nil (EX.sub' (hK _ _ _ ⟨rfl, rfl, hle616, w11_10, w13_11⟩) ⟨rfl, rfl, rfl, rfl, rfl, rfl, rfl, rfl, rfl, rfl, rfl, rfl, rfl, rfl, rfl, rfl, rfl, trivial⟩))
                                    · intro b0' b1' b2' b3' b4' b5' b6' b7' b8' b9' b10' b11' b12' b13' b14' b15'
                                      rintro ⟨⟩ ⟨⟩ ⟨⟩
                                      rintro _ _ G619 ⟨rfl, rfl, hle618, w11_10, w13_11⟩ K hK
                                      exact EL.step tabOk rfl (EL.nil (EX.sub' (hK _ _ _ ⟨rfl, rfl, hle618, w11_10, w13_11⟩) ⟨rfl, rfl, rfl, rfl, rfl, rfl, rfl, rfl, rfl, rfl, rfl, rfl, rfl, rfl, rfl, rfl, rfl, trivial⟩))
                                    · intro b0' b1' b2' b3' b4' b5' b6' b7' b8' b9' b10' b11' b12' b13' b14' b15'
                                      rintro ⟨⟩ ⟨⟩ ⟨⟩
                                      rintro _ _ G621 ⟨rfl, rfl, hle620, w11_10, w13_11⟩ K hK
                                      exact EL.step tabOk rfl (EL.nil (EX.sub' (hK _ _ _ ⟨rfl, rfl, hle620, w11_10, w13_11⟩) ⟨rfl, rfl, rfl, rfl, rfl, rfl, rfl, rfl, rfl, rfl, rfl, rfl, rfl, rfl, rfl, rfl, rfl, trivial⟩))
                                    · intro b0' b1' b2' b3' b4' b5' b6' b7' b8' b9' b10' b11' b12' b13' b14' b15'
                                      rintro ⟨⟩ ⟨⟩ ⟨⟩ ⟨⟩ ⟨⟩ ⟨⟩
                                      rintro _ _ G623 ⟨rfl, rfl, hle622, w11_10, w13_11⟩ K hK
                                      exact EL.step tabOk rfl (EL.nil (EX.sub' (hK _ _ _ ⟨rfl, rfl, hle622, w11_10, w13_11⟩) ⟨rfl, rfl, rfl, rfl, rfl, rfl, rfl, rfl, rfl, rfl, rfl, rfl, rfl, rfl, rfl, rfl, rfl, trivial⟩))
                                    · intro b0' b1' b2' b3' b4' b5' b6' b7' b8' b9' b10' b11' b12' b13' b14' b15'
                                      rintro ⟨⟩ ⟨⟩ ⟨⟩ ⟨⟩ ⟨⟩ ⟨⟩
                                      rintro _ _ G625 ⟨rfl, rfl, hle624, w11_10, w13_11⟩ K hK
                                      exact EL.step tabOk rfl (EL.nil (EX.sub' (hK _ _ _ ⟨rfl, rfl, hle624, w11_10, w13_11⟩) ⟨rfl, rfl, rfl, rfl, rfl, rfl, rfl, rfl, rfl, rfl, rfl, rfl, rfl, rfl, rfl, rfl, rfl, trivial⟩))
                                    · intro b0' b1' b2' b3' b4' b5' b6' b7' b8' b9' b10' b11' b12' b13' b14' b15'
                                      rintro ⟨⟩ ⟨⟩ ⟨⟩ ⟨⟩ ⟨⟩ ⟨⟩ ⟨⟩ ⟨⟩
                                      rintro _ _ G627 ⟨rfl, rfl, hle626, w11_10, w13_11⟩ K hK
                                      exact EL.indexRow g574 g576 tabOk rfl rfl rfl rfl rfl rfl rfl rfl (EL.nil (EX.sub' (hK _ _ _ ⟨rfl, rfl, hle626, w11_10, w13_11⟩) ⟨rfl, rfl, rfl, rfl, rfl, rfl, rfl, rfl, rfl, rfl, rfl, rfl, rfl, rfl, rfl, rfl, rfl, trivial⟩))
                                    · intro b0' b1' b2' b3' b4' b5' b6' b7' b8' b9' b10' b11' b12' b13' b14' b15'
                                      rintro ⟨⟩ ⟨⟩ ⟨⟩ ⟨⟩ ⟨⟩ ⟨⟩
                                      rintro _ _ G629 ⟨rfl, rfl, hle628, w11_10, w13_11⟩ K hK
                                      exact EL.loadRow (j := (i551 : Int).toNat) (off := 0) (sz := 3) hj579 (part_whole _) tabOk rfl rfl rfl rfl rfl rfl rfl rfl (EL.nil (EX.sub' (hK _ _ _ ⟨rfl, rfl, hle628, w11_10, w13_11⟩) ⟨rfl, rfl, rfl, rfl, rfl, rfl, rfl, rfl, rfl, rfl, rfl, rfl, rfl, rfl, rfl, rfl, rfl, trivial⟩))
                                    · intro b0' b1' b2' b3' b4' b5' b6' b7' b8' b9' b10' b11' b12' b13' b14' b15'
                                      rintro ⟨⟩ ⟨⟩ ⟨⟩ ⟨⟩
                                      rintro _ _ G631 ⟨rfl, rfl, hle630, w11_10, w13_11⟩ K hK
                                      obtain rfl : b11' = false := ncl w11_10
                                      obtain rfl : b13' = false := ncl w13_11
                                      exact EL.step tabOk rfl (EL.nil (EX.sub' (hK _ _ _ ⟨rfl, rfl, hle630, w11_10, w13_11⟩) ⟨rfl, rfl, rfl, rfl, rfl, rfl, rfl, rfl, rfl, rfl, rfl, rfl, rfl, rfl, rfl, rfl, rfl, trivial⟩))
                                    · intro b0' b1' b2' b3' b4' b5' b6' b7' b8' b9' b10' b11' b12' b13' b14' b15'
                                      rintro ⟨⟩ ⟨⟩ ⟨⟩ ⟨⟩
                                      rintro _ _ G633 ⟨rfl, rfl, hle632, w11_10, w13_11⟩ K hK
                                      exact EL.step tabOk rfl (EL.nil (EX.sub' (hK _ _ _ ⟨rfl, rfl, hle632, w11_10, w13_11⟩) ⟨rfl, rfl, rfl, rfl, rfl, rfl, rfl, rfl, rfl, rfl, rfl, rfl, rfl, rfl, rfl, rfl, rfl, trivial⟩))
                                    · intro b0' b1' b2' b3' b4' b5' b6' b7' b8' b9' b10' b11' b12' b13' b14' b15'
                                      rintro ⟨⟩ ⟨⟩ ⟨⟩ ⟨⟩ ⟨⟩ ⟨⟩
                                      rintro _ _ G635 ⟨rfl, rfl, hle634, w11_10, w13_11⟩ K hK
                                      obtain rfl : b13' = false := ncl w13_11
                                      exact EL.indexRow g583 g585 tabOk rfl rfl rfl rfl rfl rfl rfl rfl (EL.nil (EX.sub' (hK _ _ _ ⟨rfl, rfl, hle634, (fun _ => rfl), w13_11⟩) ⟨rfl, rfl, rfl, rfl, rfl, rfl, rfl, rfl, rfl, rfl, rfl, rfl, rfl, rfl, rfl, rfl, rfl, trivial⟩))
                                    · intro b0' b1' b2' b3' b4' b5' b6' b7' b8' b9' b10' b11' b12' b13' b14' b15'
                                      rintro ⟨⟩ ⟨⟩ ⟨⟩ ⟨⟩ ⟨⟩ ⟨⟩
                                      rintro _ _ G637 ⟨rfl, rfl, hle636, w11_10, w13_11⟩ K hK
                                      exact EL.loadRow (j := (i535 : Int).toNat) (off := 0) (sz := 3) hj588 (part_whole _) tabOk rfl rfl rfl rfl rfl rfl rfl rfl (EL.nil (EX.sub' (hK _ _ _ ⟨rfl, rfl, hle636, (fun _ => rfl), (fun _ => rfl)⟩) ⟨rfl, rfl, rfl, rfl, rfl, rfl, rfl, rfl, rfl, rfl, rfl, rfl, rfl, rfl, rfl, rfl, rfl, trivial⟩))
                                    · intro b0' b1' b2' b3' b4' b5' b6' b7' b8' b9' b10' b11' b12' b13' b14' b15'
                                      rintro ⟨⟩ ⟨⟩ ⟨⟩ ⟨⟩ ⟨⟩ ⟨⟩ ⟨⟩ ⟨⟩ ⟨⟩ ⟨⟩ ⟨⟩ ⟨⟩ ⟨⟩
                                      rintro _ _ G639 ⟨rfl, rfl, hle638, w11_10, w13_11⟩ K hK
                                      exact EL.indexRow g592 g594 tabOk rfl rfl rfl rfl rfl rfl rfl rfl (EL.nil (EX.sub' (hK _ _ _ ⟨rfl, rfl, hle638, w11_10, w13_11⟩) ⟨rfl, rfl, rfl, rfl, rfl, rfl, rfl, rfl, rfl, rfl, rfl, rfl, rfl, rfl, rfl, rfl, rfl, trivial⟩))
                                    · intro b0' b1' b2' b3' b4' b5' b6' b7' b8' b9' b10' b11' b12' b13' b14' b15'
                                      rintro ⟨⟩ ⟨⟩ ⟨⟩ ⟨⟩ ⟨⟩ ⟨⟩ ⟨⟩ ⟨⟩ ⟨⟩ ⟨⟩ ⟨⟩ ⟨⟩
                                      rintro _ _ G641 ⟨rfl, rfl, hle640, w11_10, w13_11⟩ K hK
                                      have h560 := Els.mono h560 hle640
                                      exact EL.updX hx600 h560 (show R _ y572 (.agg #[.int .i64 y572.best.x0, .int .i64 y572.best.x1, .int .i64 y572.at_]) from rfl) tabOk rfl rfl rfl rfl rfl rfl rfl rfl rfl rfl (EL.nil (EX.sub' (hK _ _ _ ⟨rfl, rfl, hle640, w11_10, (fun _ => rfl)⟩) ⟨rfl, rfl, rfl, rfl, rfl, rfl, rfl, rfl, rfl, rfl, rfl, rfl, rfl, rfl, rfl, rfl, rfl, trivial⟩))
                                    · intro b0' b1' b2' b3' b4' b5' b6' b7' b8' b9' b10' b11' b12' b13' b14' b15'
                                      rintro ⟨⟩ ⟨⟩ ⟨⟩ ⟨⟩ ⟨⟩ ⟨⟩ ⟨⟩ ⟨⟩ ⟨⟩ ⟨⟩ ⟨⟩ ⟨⟩ ⟨⟩ ⟨⟩ ⟨⟩ ⟨⟩ ⟨⟩ ⟨⟩
                                      rintro _ _ G643 ⟨rfl, rfl, hle642, w11_10, w13_11⟩ K hK
                                      exact EL.indexRow g604 g606 tabOk rfl rfl rfl rfl rfl rfl rfl rfl (EL.nil (EX.sub' (hK _ _ _ ⟨rfl, rfl, hle642, w11_10, w13_11⟩) ⟨rfl, rfl, rfl, rfl, rfl, rfl, rfl, rfl, rfl, rfl, rfl, rfl, rfl, rfl, rfl, rfl, rfl, trivial⟩))
                                    · intro b0' b1' b2' b3' b4' b5' b6' b7' b8' b9' b10' b11' b12' b13' b14' b15'
                                      rintro ⟨⟩ ⟨⟩ ⟨⟩ ⟨⟩ ⟨⟩ ⟨⟩ ⟨⟩ ⟨⟩ ⟨⟩ ⟨⟩ ⟨⟩ ⟨⟩ ⟨⟩ ⟨⟩ ⟨⟩ ⟨⟩ ⟨⟩ ⟨⟩
                                      rintro _ _ G645 ⟨rfl, rfl, hle644, w11_10, w13_11⟩ K hK
                                      have h601 := Els.mono h601 hle644
                                      exact EL.updX hx612 h601 (show R _ y581 (.agg #[.int .i64 y581.best.x0, .int .i64 y581.best.x1, .int .i64 y581.at_]) from rfl) tabOk rfl rfl rfl rfl rfl rfl rfl rfl rfl rfl (EL.nil (EX.sub' (hK _ _ _ ⟨rfl, rfl, hle644, w11_10, w13_11⟩) ⟨rfl, rfl, rfl, rfl, rfl, rfl, rfl, rfl, rfl, rfl, rfl, rfl, rfl, rfl, rfl, rfl, rfl, trivial⟩))
                                  rintro _ _ G647 ⟨rfl, rfl, hle646, w11_10, w13_11⟩
                                  have h3 := Rep.mono hle646 h3
                                  have h6 := Rep.mono hle646 h6
                                  have h613 := Els.mono h613 hle646
                                  have h40 := Els.mono h40 hle646
                                  exact EX.backVN hB566 ⟨vals564, l611, ((es559.set (i535 : Int).toNat (.agg #[.int .i64 y572.best.x0, .int .i64 y572.best.x1, .int .i64 y572.at_])).set (i551 : Int).toNat (.agg #[.int .i64 y581.best.x0, .int .i64 y581.best.x1, .int .i64 y581.at_])), rfl, rfl, rfl, hle646, h613, H⟩ tabOk rfl ⟨.inr rfl, .inr rfl, .inr rfl, .inr rfl, .inr rfl, .inr rfl, .inr rfl, .inr rfl, .inr rfl, .inr rfl, .inl trivial, .inr rfl, trivial⟩ rfl rfl
                            · skip
                              intro K556 vals555 hB557
                              refine E.seq (E.region (EL.run tabOk 1 rfl (EL.nil (EX.seq (E.seq ?_)))))
                              obtain ⟨y648, hy649, H⟩ := bind_some H
                              obtain ⟨g650, g651, g652, g653⟩ := idx_some hy649; obtain ⟨u654, hj655, hu656⟩ := All2.get h547 g653
                              obtain rfl : _ = _ := hu656
                              obtain ⟨y657, hy658, H⟩ := bind_some H
                              obtain ⟨g659, g660, g661, g662⟩ := idx_some hy658; obtain ⟨u663, hj664, hu665⟩ := All2.get h547 g662
                              obtain rfl : _ = _ := hu665
                              obtain ⟨x666, hx667, H⟩ := bind_some H
                              refine E.fewer (env' := [(0, some (.row 1)), (1, some (.v (.int .i64 i551))), (2, some (.v (.int .i64 i535)))]) (L' := [.box 25 [.v (.int .i64 p0.Segs), .v (.slice A1 p0.Plans.length c2), .v (.slice A4 p0.Hosts.length c5)], .row 88 3 l545.length es546, .box 83 [.row 1], .row 61 2 l38.length es39, .mp (mE Value.bool m41), .gone, .sav [.p 0 0, .ip 81 2 0, .row 3, .mp 4] vals66, .gone, .gone, .sav [.ip 81 2 0] vals496, .sav [.ip 81 2 0, .v (.int .i64 0), .v (.int .i64 (wr (i485 - 1))), .v (.int .i64 i535), .v (.int .i64 i551)] vals555]) (E.sub' ((E.draw mixed (fun (bs : List Bool) (env : Env) (L : List Ent) (Γ : Ghost) => match bs with | [b0', b1', b2', b3', b4', b5', b6', b7', b8', b9', b10', b11'] =>  env = [(7, bif b0' then some (.row 1) else none), (8, bif b1' then some (.v (.int .i64 i551)) else none), (9, bif b2' then some (.p 1 ((i551 : Int).toNat * 3)) else none), (10, bif b3' then some (.p 1 ((i551 : Int).toNat * 3)) else none), (11, bif b4' then some (.v (.agg #[.int .i64 y648.best.x0, .int .i64 y648.best.x1])) else none), (12, bif b5' then some (.row 1) else none), (13, bif b6' then some (.v (.int .i64 i535)) else none), (14, bif b7' then some (.p 1 ((i535 : Int).toNat * 3)) else none), (15, bif b8' then some (.p 1 ((i535 : Int).toNat * 3)) else none), (16, bif b9' then some (.v (.agg #[.int .i64 y657.best.x0, .int .i64 y657.best.x1])) else none), (17, bif b10' then some (.v (.bool x666)) else none), (6, bif b11' then some (.v (.bool x666)) else none), (0, some (.row 1)), (1, some (.v (.int .i64 i551))), (2, some (.v (.int .i64 i535)))] ∧ L = [.box 25 [.v (.int .i64 p0.Segs), .v (.slice A1 p0.Plans.length c2), .v (.slice A4 p0.Hosts.length c5)], .row 88 3 l545.length es546, .box 83 [.row 1], .row 61 2 l38.length es39, .mp (mE Value.bool m41), .gone, .sav [.p 0 0, .ip 81 2 0, .row 3, .mp 4] vals66, .gone, .gone, .sav [.ip 81 2 0] vals496, .sav [.ip 81 2 0, .v (.int .i64 0), .v (.int .i64 (wr (i485 - 1))), .v (.int .i64 i535), .v (.int .i64 i551)] vals555] ∧ GLe G554 Γ | _ => False) ⟨rfl, rfl, GLe.refl _⟩ rfl ?_ ?_)) ⟨rfl, rfl, rfl, rfl, rfl, rfl, rfl, rfl, rfl, rfl, rfl, rfl, rfl, rfl, rfl, trivial⟩) ⟨⟨_, rfl, rfl⟩, ⟨_, rfl, rfl⟩, ⟨_, rfl, rfl⟩, trivial⟩ ⟨.inr rfl, .inr rfl, .inr rfl, .inr rfl, .inr rfl, .inr rfl, .inr rfl, .inr rfl, .inr rfl, .inr rfl, .inr rfl, trivial⟩ rfl rfl
                              · refine ⟨?_, ?_, ?_, ?_, ?_, ?_, ?_, ?_, ?_, ?_, ?_, ?_, trivial⟩
                                · intro b0' b1' b2' b3' b4' b5' b6' b7' b8' b9' b10' b11'
                                  rintro ⟨⟩ ⟨⟩ ⟨⟩
                                  rintro _ _ G669 ⟨rfl, rfl, hle668⟩ K hK
                                  exact EL.step tabOk rfl (EL.nil (EX.sub' (hK _ _ _ ⟨rfl, rfl, hle668⟩) ⟨rfl, rfl, rfl, rfl, rfl, rfl, rfl, rfl, rfl, rfl, rfl, rfl, rfl, rfl, rfl, trivial⟩))
                                · intro b0' b1' b2' b3' b4' b5' b6' b7' b8' b9' b10' b11'
                                  rintro ⟨⟩ ⟨⟩ ⟨⟩
                                  rintro _ _ G671 ⟨rfl, rfl, hle670⟩ K hK
                                  exact EL.step tabOk rfl (EL.nil (EX.sub' (hK _ _ _ ⟨rfl, rfl, hle670⟩) ⟨rfl, rfl, rfl, rfl, rfl, rfl, rfl, rfl, rfl, rfl, rfl, rfl, rfl, rfl, rfl, trivial⟩))
                                · intro b0' b1' b2' b3' b4' b5' b6' b7' b8' b9' b10' b11'
                                  rintro ⟨⟩ ⟨⟩ ⟨⟩ ⟨⟩ ⟨⟩
                                  rintro _ _ G673 ⟨rfl, rfl, hle672⟩ K hK
                                  exact EL.indexRow g650 g652 tabOk rfl rfl rfl rfl rfl rfl rfl rfl (EL.nil (EX.sub' (hK _ _ _ ⟨rfl, rfl, hle672⟩) ⟨rfl, rfl, rfl, rfl, rfl, rfl, rfl, rfl, rfl, rfl, rfl, rfl, rfl, rfl, rfl, trivial⟩))
                                · intro b0' b1' b2' b3' b4' b5' b6' b7' b8' b9' b10' b11'
                                  rintro ⟨⟩ ⟨⟩ ⟨⟩ ⟨⟩
                                  rintro _ _ G675 ⟨rfl, rfl, hle674⟩ K hK
                                  exact EL.step tabOk rfl (EL.nil (EX.sub' (hK _ _ _ ⟨rfl, rfl, hle674⟩) ⟨rfl, rfl, rfl, rfl, rfl, rfl, rfl, rfl, rfl, rfl, rfl, rfl, rfl, rfl, rfl, trivial⟩))
                                · intro b0' b1' b2' b3' b4' b5' b6' b7' b8' b9' b10' b11'
                                  rintro ⟨⟩ ⟨⟩ ⟨⟩ ⟨⟩
                                  rintro _ _ G677 ⟨rfl, rfl, hle676⟩ K hK
                                  exact EL.loadRow (j := (i551 : Int).toNat) (off := 0) (sz := 3) hj655 (part_sub (n := 2) rfl rfl) tabOk rfl rfl rfl rfl rfl rfl rfl rfl (EL.nil (EX.sub' (hK _ _ _ ⟨rfl, rfl, hle676⟩) ⟨rfl, rfl, rfl, rfl, rfl, rfl, rfl, rfl, rfl, rfl, rfl, rfl, rfl, rfl, rfl, trivial⟩))
                                · intro b0' b1' b2' b3' b4' b5' b6' b7' b8' b9' b10' b11'
                                  rintro ⟨⟩ ⟨⟩ ⟨⟩
                                  rintro _ _ G679 ⟨rfl, rfl, hle678⟩ K hK
                                  exact EL.step tabOk rfl (EL.nil (EX.sub' (hK _ _ _ ⟨rfl, rfl, hle678⟩) ⟨rfl, rfl, rfl, rfl, rfl, rfl, rfl, rfl, rfl, rfl, rfl, rfl, rfl, rfl, rfl, trivial⟩))
                                · intro b0' b1' b2' b3' b4' b5' b6' b7' b8' b9' b10' b11'
                                  rintro ⟨⟩ ⟨⟩ ⟨⟩
                                  rintro _ _ G681 ⟨rfl, rfl, hle680⟩ K hK
                                  exact EL.step tabOk rfl (EL.nil (EX.sub' (hK _ _ _ ⟨rfl, rfl, hle680⟩) ⟨rfl, rfl, rfl, rfl, rfl, rfl, rfl, rfl, rfl, rfl, rfl, rfl, rfl, rfl, rfl, trivial⟩))
                                · intro b0' b1' b2' b3' b4' b5' b6' b7' b8' b9' b10' b11'
                                  rintro ⟨⟩ ⟨⟩ ⟨⟩ ⟨⟩ ⟨⟩
                                  rintro _ _ G683 ⟨rfl, rfl, hle682⟩ K hK
                                  exact EL.indexRow g659 g661 tabOk rfl rfl rfl rfl rfl rfl rfl rfl (EL.nil (EX.sub' (hK _ _ _ ⟨rfl, rfl, hle682⟩) ⟨rfl, rfl, rfl, rfl, rfl, rfl, rfl, rfl, rfl, rfl, rfl, rfl, rfl, rfl, rfl, trivial⟩))
                                · intro b0' b1' b2' b3' b4' b5' b6' b7' b8' b9' b10' b11'
                                  rintro ⟨⟩ ⟨⟩ ⟨⟩ ⟨⟩
                                  rintro _ _ G685 ⟨rfl, rfl, hle684⟩ K hK
                                  exact EL.step tabOk rfl (EL.nil (EX.sub' (hK _ _ _ ⟨rfl, rfl, hle684⟩) ⟨rfl, rfl, rfl, rfl, rfl, rfl, rfl, rfl, rfl, rfl, rfl, rfl, rfl, rfl, rfl, trivial⟩))
                                · intro b0' b1' b2' b3' b4' b5' b6' b7' b8' b9' b10' b11'
                                  rintro ⟨⟩ ⟨⟩ ⟨⟩ ⟨⟩
                                  rintro _ _ G687 ⟨rfl, rfl, hle686⟩ K hK
                                  exact EL.loadRow (j := (i535 : Int).toNat) (off := 0) (sz := 3) hj664 (part_sub (n := 2) rfl rfl) tabOk rfl rfl rfl rfl rfl rfl rfl rfl (EL.nil (EX.sub' (hK _ _ _ ⟨rfl, rfl, hle686⟩) ⟨rfl, rfl, rfl, rfl, rfl, rfl, rfl, rfl, rfl, rfl, rfl, rfl, rfl, rfl, rfl, trivial⟩))
                                · intro b0' b1' b2' b3' b4' b5' b6' b7' b8' b9' b10' b11'
                                  rintro ⟨⟩ ⟨⟩ ⟨⟩ ⟨⟩
                                  rintro _ _ G689 ⟨rfl, rfl, hle688⟩ K hK
                                  refine EL.call rfl rfl rfl rfl tree_best_less_enters (fun w hw => tree_best_less_ok hx667 hw ) (fun v690 G693 hle692 hv691 => ?_)
                                  obtain rfl : _ = _ := hv691
                                  exact EL.nil (EX.sub' (hK _ _ _ ⟨rfl, rfl, (GLe.trans hle688 hle692)⟩) ⟨rfl, rfl, rfl, rfl, rfl, rfl, rfl, rfl, rfl, rfl, rfl, rfl, rfl, rfl, rfl, trivial⟩)
                                · intro b0' b1' b2' b3' b4' b5' b6' b7' b8' b9' b10' b11'
                                  rintro ⟨⟩ ⟨⟩ ⟨⟩ ⟨⟩ ⟨⟩ ⟨⟩ ⟨⟩ ⟨⟩ ⟨⟩ ⟨⟩ ⟨⟩ ⟨⟩ ⟨⟩ ⟨⟩
                                  rintro _ _ G695 ⟨rfl, rfl, hle694⟩ K hK
                                  exact EL.step tabOk rfl (EL.nil (EX.sub' (hK _ _ _ ⟨rfl, rfl, hle694⟩) ⟨rfl, rfl, rfl, rfl, rfl, rfl, rfl, rfl, rfl, rfl, rfl, rfl, rfl, rfl, rfl, trivial⟩))
                              rintro _ _ G697 ⟨rfl, rfl, hle696⟩
                              have h3 := Rep.mono hle696 h3
                              have h6 := Rep.mono hle696 h6
                              have h547 := Els.mono h547 hle696
                              have h40 := Els.mono h40 hle696
                              exact EX.seq (E.ret (EX.back hB557 ⟨vals555, l545, x666, es546, rfl, rfl, rfl, hle696, h547, H⟩ tabOk rfl rfl (fun _ => rfl) ⟨.inr rfl, .inr rfl, .inr rfl, .inr rfl, .inr rfl, .inr rfl, .inr rfl, .inr rfl, .inr rfl, .inr rfl, .inr rfl, trivial⟩ rfl rfl rfl))
                          · skip
                            refine E.cond rfl H (fun hb H => ?_) (fun hb H => ?_)
                            · skip
                              exact E.region (EL.run tabOk 2 rfl (EL.nil (EX.fewer (hj552 _ _ _ ⟨wr ((wr ((wr (2 * i535)) + 1)) + 1), rfl, rfl, (GLe.refl _), H⟩) ⟨⟨_, rfl, rfl⟩, ⟨_, rfl, rfl⟩, ⟨_, rfl, rfl⟩, ⟨_, rfl, rfl⟩, ⟨_, rfl, rfl⟩, trivial⟩ ⟨.inr rfl, .inr rfl, .inr rfl, .inr rfl, .inr rfl, .inr rfl, .inr rfl, .inr rfl, .inr rfl, .inr rfl, trivial⟩ rfl rfl)))
                            · skip
                              exact E.skip (EX.fewer (hj552 _ _ _ ⟨wr ((wr (2 * i535)) + 1), rfl, rfl, (GLe.refl _), H⟩) ⟨⟨_, rfl, rfl⟩, ⟨_, rfl, rfl⟩, ⟨_, rfl, rfl⟩, ⟨_, rfl, rfl⟩, ⟨_, rfl, rfl⟩, trivial⟩ ⟨.inr rfl, .inr rfl, .inr rfl, .inr rfl, .inr rfl, .inr rfl, .inr rfl, .inr rfl, .inr rfl, .inr rfl, trivial⟩ rfl rfl)
                        · skip
                          refine E.region (EL.run tabOk 4 rfl (EL.split (s := 28) rfl H (fun hb H => ?_) (fun hb H => ?_)))
                          · skip
                            refine EL.run tabOk 3 rfl (EL.inv [0, 1, 2, 7, 9, 10, 28] rfl rfl rfl rfl rfl (mth_val tabOk mth_81_Less rfl rfl) Try.func82 tree_ways_Less_enters rfl Try.ntmps82 rfl rfl (fun L Γ ks s => ∃ (vals698 : List Value) (l701 : (List tree_way)) (b704 : Bool) (es702 : List Value), L = [.box 25 [.v (.int .i64 p0.Segs), .v (.slice A1 p0.Plans.length c2), .v (.slice A4 p0.Hosts.length c5)], .row 88 3 l701.length es702, .box 83 [.row 1], .row 61 2 l38.length es39, .mp (mE Value.bool m41), .gone, .sav [.p 0 0, .ip 81 2 0, .row 3, .mp 4] vals66, .gone, .gone, .sav [.ip 81 2 0] vals496, .sav [.ip 81 2 0, .v (.int .i64 0), .v (.int .i64 (wr (i485 - 1))), .v (.int .i64 i535), .v (.int .i64 (wr ((wr (2 * i535)) + 1))), .v (.int .i64 (wr ((wr ((wr (2 * i535)) + 1)) + 1))), .tt] vals698] ∧ ks = [.ip 81 2 0, .v (.int .i64 0), .v (.int .i64 (wr (i485 - 1))), .v (.int .i64 i535), .v (.int .i64 (wr ((wr (2 * i535)) + 1))), .v (.int .i64 (wr ((wr ((wr (2 * i535)) + 1)) + 1))), .tt] ∧ s = .v (.bool b704) ∧ GLe G541 Γ ∧ Els Γ l701 es702 ∧ tree_bests_j26 k p0 l38 m41 (loopN (fun _ _ _ => none) (tree_bests_s31 k p0) n46) i535 (loopN (fun _ _ => none) (tree_bests_s27 k p0 l38 m41 (loopN (fun _ _ _ => none) (tree_bests_s31 k p0) n46) i485) n543) l701 b704 = some r) ?_ ?_)
                            · skip
                              rintro _ G706 _ _ ⟨vals698, l701, b704, es702, rfl, rfl, rfl, hle705, h703, H⟩
                              unfold tree_bests_j26 at H
                              have h3 := Rep.mono hle705 h3; have h6 := Rep.mono hle705 h6; have h40 := Els.mono h40 hle705
                              exact EL.run tabOk 1 rfl (EL.nil (EX.fewer (hj548 _ _ _ ⟨b704, l701, es702, rfl, rfl, hle705, h703, H⟩) ⟨⟨_, rfl, rfl⟩, ⟨_, rfl, rfl⟩, ⟨_, rfl, rfl⟩, ⟨_, rfl, rfl⟩, ⟨_, rfl, rfl⟩, ⟨_, rfl, rfl⟩, ⟨_, rfl, rfl⟩, trivial⟩ ⟨.inr rfl, .inr rfl, .inr rfl, .inr rfl, .inr rfl, .inr rfl, .inr rfl, .inr rfl, .inr rfl, .inr rfl, trivial⟩ rfl rfl))
                            · skip
                              intro K699 vals698 hB700
                              refine E.seq (E.region (EL.run tabOk 1 rfl (EL.nil (EX.seq (E.seq ?_)))))
                              obtain ⟨y707, hy708, H⟩ := bind_some H
                              obtain ⟨g709, g710, g711, g712⟩ := idx_some hy708; obtain ⟨u713, hj714, hu715⟩ := All2.get h538 g712
                              obtain rfl : _ = _ := hu715
                              obtain ⟨y716, hy717, H⟩ := bind_some H
                              obtain ⟨g718, g719, g720, g721⟩ := idx_some hy717; obtain ⟨u722, hj723, hu724⟩ := All2.get h538 g721
                              obtain rfl : _ = _ := hu724
                              obtain ⟨x725, hx726, H⟩ := bind_some H
                              refine E.fewer (env' := [(0, some (.row 1)), (1, some (.v (.int .i64 (wr ((wr ((wr (2 * i535)) + 1)) + 1))))), (2, some (.v (.int .i64 (wr ((wr (2 * i535)) + 1)))))]) (L' := [.box 25 [.v (.int .i64 p0.Segs), .v (.slice A1 p0.Plans.length c2), .v (.slice A4 p0.Hosts.length c5)], .row 88 3 l536.length es537, .box 83 [.row 1], .row 61 2 l38.length es39, .mp (mE Value.bool m41), .gone, .sav [.p 0 0, .ip 81 2 0, .row 3, .mp 4] vals66, .gone, .gone, .sav [.ip 81 2 0] vals496, .sav [.ip 81 2 0, .v (.int .i64 0), .v (.int .i64 (wr (i485 - 1))), .v (.int .i64 i535), .v (.int .i64 (wr ((wr (2 * i535)) + 1))), .v (.int .i64 (wr ((wr ((wr (2 * i535)) + 1)) + 1))), .tt] vals698]) (E.sub' ((E.draw mixed (fun (bs : List Bool) (env : Env) (L : List Ent) (Γ : Ghost) => match bs with | [b0', b1', b2', b3', b4', b5', b6', b7', b8', b9', b10', b11'] =>  env = [(7, bif b0' then some (.row 1) else none), (8, bif b1' then some (.v (.int .i64 (wr ((wr ((wr (2 * i535)) + 1)) + 1)))) else none), (9, bif b2' then some (.p 1 ((wr ((wr ((wr (2 * i535)) + 1)) + 1) : Int).toNat * 3)) else none), (10, bif b3' then some (.p 1 ((wr ((wr ((wr (2 * i535)) + 1)) + 1) : Int).toNat * 3)) else none), (11, bif b4' then some (.v (.agg #[.int .i64 y707.best.x0, .int .i64 y707.best.x1])) else none), (12, bif b5' then some (.row 1) else none), (13, bif b6' then some (.v (.int .i64 (wr ((wr (2 * i535)) + 1)))) else none), (14, bif b7' then some (.p 1 ((wr ((wr (2 * i535)) + 1) : Int).toNat * 3)) else none), (15, bif b8' then some (.p 1 ((wr ((wr (2 * i535)) + 1) : Int).toNat * 3)) else none), (16, bif b9' then some (.v (.agg #[.int .i64 y716.best.x0, .int .i64 y716.best.x1])) else none), (17, bif b10' then some (.v (.bool x725)) else none), (6, bif b11' then some (.v (.bool x725)) else none), (0, some (.row 1)), (1, some (.v (.int .i64 (wr ((wr ((wr (2 * i535)) + 1)) + 1))))), (2, some (.v (.int .i64 (wr ((wr (2 * i535)) + 1)))))] ∧ L = [.box 25 [.v (.int .i64 p0.Segs), .v (.slice A1 p0.Plans.length c2), .v (.slice A4 p0.Hosts.length c5)], .row 88 3 l536.length es537, .box 83 [.row 1], .row 61 2 l38.length es39, .mp (mE Value.bool m41), .gone, .sav [.p 0 0, .ip 81 2 0, .row 3, .mp 4] vals66, .gone, .gone, .sav [.ip 81 2 0] vals496, .sav [.ip 81 2 0, .v (.int .i64 0), .v (.int .i64 (wr (i485 - 1))), .v (.int .i64 i535), .v (.int .i64 (wr ((wr (2 * i535)) + 1))), .v (.int .i64 (wr ((wr ((wr (2 * i535)) + 1)) + 1))), .tt] vals698] ∧ GLe G541 Γ | _ => False) ⟨rfl, rfl, GLe.refl _⟩ rfl ?_ ?_)) ⟨rfl, rfl, rfl, rfl, rfl, rfl, rfl, rfl, rfl, rfl, rfl, rfl, rfl, rfl, rfl, trivial⟩) ⟨⟨_, rfl, rfl⟩, ⟨_, rfl, rfl⟩, ⟨_, rfl, rfl⟩, trivial⟩ ⟨.inr rfl, .inr rfl, .inr rfl, .inr rfl, .inr rfl, .inr rfl, .inr rfl, .inr rfl, .inr rfl, .inr rfl, .inr rfl, trivial⟩ rfl rfl
                              · refine ⟨?_, ?_, ?_, ?_, ?_, ?_, ?_, ?_, ?_, ?_, ?_, ?_, trivial⟩
                                · intro b0' b1' b2' b3' b4' b5' b6' b7' b8' b9' b10' b11'
                                  rintro ⟨⟩ ⟨⟩ ⟨⟩
                                  rintro _ _ G728 ⟨rfl, rfl, hle727⟩ K hK
                                  exact EL.step tabOk rfl (EL.nil (EX.sub' (hK _ _ _ ⟨rfl, rfl, hle727⟩) ⟨rfl, rfl, rfl, rfl, rfl, rfl, rfl, rfl, rfl, rfl, rfl, rfl, rfl, rfl, rfl, trivial⟩))
                                · intro b0' b1' b2' b3' b4' b5' b6' b7' b8' b9' b10' b11'
                                  rintro ⟨⟩ ⟨⟩ ⟨⟩
                                  rintro _ _ G730 ⟨rfl, rfl, hle729⟩ K hK
                                  exact EL.step tabOk rfl (EL.nil (EX.sub' (hK _ _ _ ⟨rfl, rfl, hle729⟩) ⟨rfl, rfl, rfl, rfl, rfl, rfl, rfl, rfl, rfl, rfl, rfl, rfl, rfl, rfl, rfl, trivial⟩))
                                · intro b0' b1' b2' b3' b4' b5' b6' b7' b8' b9' b10' b11'
                                  rintro ⟨⟩ ⟨⟩ ⟨⟩ ⟨⟩ ⟨⟩
                                  rintro _ _ G732 ⟨rfl, rfl, hle731⟩ K hK
                                  exact EL.indexRow g709 g711 tabOk rfl rfl rfl rfl rfl rfl rfl rfl (EL.nil (EX.sub' (hK _ _ _ ⟨rfl, rfl, hle731⟩) ⟨rfl, rfl, rfl, rfl, rfl, rfl, rfl, rfl, rfl, rfl, rfl, rfl, rfl, rfl, rfl, trivial⟩))
                                · intro b0' b1' b2' b3' b4' b5' b6' b7' b8' b9' b10' b11'
                                  rintro ⟨⟩ ⟨⟩ ⟨⟩ ⟨⟩
                                  rintro _ _ G734 ⟨rfl, rfl, hle733⟩ K hK
                                  exact EL.step tabOk rfl (EL.nil (EX.sub' (hK _ _ _ ⟨rfl, rfl, hle733⟩) ⟨rfl, rfl, rfl, rfl, rfl, rfl, rfl, rfl, rfl, rfl, rfl, rfl, rfl, rfl, rfl, trivial⟩))
                                · intro b0' b1' b2' b3' b4' b5' b6' b7' b8' b9' b10' b11'
                                  rintro ⟨⟩ ⟨⟩ ⟨⟩ ⟨⟩
                                  rintro _ _ G736 ⟨rfl, rfl, hle735⟩ K hK
                                  exact EL.loadRow (j := (wr ((wr ((wr (2 * i535)) + 1)) + 1) : Int).toNat) (off := 0) (sz := 3) hj714 (part_sub (n := 2) rfl rfl) tabOk rfl rfl rfl rfl rfl rfl rfl rfl (EL.nil (EX.sub' (hK _ _ _ ⟨rfl, rfl, hle735⟩) ⟨rfl, rfl, rfl, rfl, rfl, rfl, rfl, rfl, rfl, rfl, rfl, rfl, rfl, rfl, rfl, trivial⟩))
                                · intro b0' b1' b2' b3' b4' b5' b6' b7' b8' b9' b10' b11'
                                  rintro ⟨⟩ ⟨⟩ ⟨⟩
                                  rintro _ _ G738 ⟨rfl, rfl, hle737⟩ K hK
                                  exact EL.step tabOk rfl (EL.nil (EX.sub' (hK _ _ _ ⟨rfl, rfl, hle737⟩) ⟨rfl, rfl, rfl, rfl, rfl, rfl, rfl, rfl, rfl, rfl, rfl, rfl, rfl, rfl, rfl, trivial⟩))
                                · intro b0' b1' b2' b3' b4' b5' b6' b7' b8' b9' b10' b11'
                                  rintro ⟨⟩ ⟨⟩ ⟨⟩
                                  rintro _ _ G740 ⟨rfl, rfl, hle739⟩ K hK
                                  exact EL.step tabOk rfl (EL.nil (EX.sub' (hK _ _ _ ⟨rfl, rfl, hle739⟩) ⟨rfl, rfl, rfl, rfl, rfl, rfl, rfl, rfl, rfl, rfl, rfl, rfl, rfl, rfl, rfl, trivial⟩))
                                · intro b0' b1' b2' b3' b4' b5' b6' b7' b8' b9' b10' b11'
                                  rintro ⟨⟩ ⟨⟩ ⟨⟩ ⟨⟩ ⟨⟩
                                  rintro _ _ G742 ⟨rfl, rfl, hle741⟩ K hK
                                  exact EL.indexRow g718 g720 tabOk rfl rfl rfl rfl rfl rfl rfl rfl (EL.nil (EX.sub' (hK _ _ _ ⟨rfl, rfl, hle741⟩) ⟨rfl, rfl, rfl, rfl, rfl, rfl, rfl, rfl, rfl, rfl, rfl, rfl, rfl, rfl, rfl, trivial⟩))
                                · intro b0' b1' b2' b3' b4' b5' b6' b7' b8' b9' b10' b11'
                                  rintro ⟨⟩ ⟨⟩ ⟨⟩ ⟨⟩
                                  rintro _ _ G744 ⟨rfl, rfl, hle743⟩ K hK
                                  exact EL.step tabOk rfl (EL.nil (EX.sub' (hK _ _ _ ⟨rfl, rfl, hle743⟩) ⟨rfl, rfl, rfl, rfl, rfl, rfl, rfl, rfl, rfl, rfl, rfl, rfl, rfl, rfl, rfl, trivial⟩))
                                · intro b0' b1' b2' b3' b4' b5' b6' b7' b8' b9' b10' b11'
                                  rintro ⟨⟩ ⟨⟩ ⟨⟩ ⟨⟩
                                  rintro _ _ G746 ⟨rfl, rfl, hle745⟩ K hK
                                  exact EL.loadRow (j := (wr ((wr (2 * i535)) + 1) : Int).toNat) (off := 0) (sz := 3) hj723 (part_sub (n := 2) rfl rfl) tabOk rfl rfl rfl rfl rfl rfl rfl rfl (EL.nil (EX.sub' (hK _ _ _ ⟨rfl, rfl, hle745⟩) ⟨rfl, rfl, rfl, rfl, rfl, rfl, rfl, rfl, rfl, rfl, rfl, rfl, rfl, rfl, rfl, trivial⟩))
                                · intro b0' b1' b2' b3' b4' b5' b6' b7' b8' b9' b10' b11'
                                  rintro ⟨⟩ ⟨⟩ ⟨⟩ ⟨⟩
                                  rintro _ _ G748 ⟨rfl, rfl, hle747⟩ K hK
                                  refine EL.call rfl rfl rfl rfl tree_best_less_enters (fun w hw => tree_best_less_ok hx726 hw ) (fun v749 G752 hle751 hv750 => ?_)
                                  obtain rfl : _ = _ := hv750
                                  exact EL.nil (EX.sub' (hK _ _ _ ⟨rfl, rfl, (GLe.trans hle747 hle751)⟩) ⟨rfl, rfl, rfl, rfl, rfl, rfl, rfl, rfl, rfl, rfl, rfl, rfl, rfl, rfl, rfl, trivial⟩)
                                · intro b0' b1' b2' b3' b4' b5' b6' b7' b8' b9' b10' b11'
                                  rintro ⟨⟩ ⟨⟩ ⟨⟩ ⟨⟩ ⟨⟩ ⟨⟩ ⟨⟩ ⟨⟩ ⟨⟩ ⟨⟩ ⟨⟩ ⟨⟩ ⟨⟩ ⟨⟩
                                  rintro _ _ G754 ⟨rfl, rfl, hle753⟩ K hK
                                  exact EL.step tabOk rfl (EL.nil (EX.sub' (hK _ _ _ ⟨rfl, rfl, hle753⟩) ⟨rfl, rfl, rfl, rfl, rfl, rfl, rfl, rfl, rfl, rfl, rfl, rfl, rfl, rfl, rfl, trivial⟩))
                              rintro _ _ G756 ⟨rfl, rfl, hle755⟩
                              have h3 := Rep.mono hle755 h3
                              have h6 := Rep.mono hle755 h6
                              have h538 := Els.mono h538 hle755
                              have h40 := Els.mono h40 hle755
                              exact EX.seq (E.ret (EX.back hB700 ⟨vals698, l536, x725, es537, rfl, rfl, rfl, hle755, h538, H⟩ tabOk rfl rfl (fun _ => rfl) ⟨.inr rfl, .inr rfl, .inr rfl, .inr rfl, .inr rfl, .inr rfl, .inr rfl, .inr rfl, .inr rfl, .inr rfl, .inr rfl, trivial⟩ rfl rfl rfl))
                          · skip
                            exact EL.run tabOk 5 rfl (EL.nil (EX.fewer (hj548 _ _ _ ⟨false, l536, es537, rfl, rfl, (GLe.refl _), h538, H⟩) ⟨⟨_, rfl, rfl⟩, ⟨_, rfl, rfl⟩, ⟨_, rfl, rfl⟩, ⟨_, rfl, rfl⟩, ⟨_, rfl, rfl⟩, ⟨_, rfl, rfl⟩, ⟨_, rfl, rfl⟩, trivial⟩ ⟨.inr rfl, .inr rfl, .inr rfl, .inr rfl, .inr rfl, .inr rfl, .inr rfl, .inr rfl, .inr rfl, .inr rfl, trivial⟩ rfl rfl))
                · skip
                  intro K489 vals488 hB490
                  obtain ⟨y757, hy758, H⟩ := bind_some H
                  obtain ⟨g759, g760, g761, g762⟩ := idx_some hy758; obtain ⟨u763, hj764, hu765⟩ := All2.get h484 g762
                  obtain rfl : _ = _ := hu765
                  obtain ⟨y766, hy767, H⟩ := bind_some H
                  obtain ⟨g768, g769, g770, g771⟩ := idx_some hy767; obtain ⟨u772, hj773, hu774⟩ := All2.get h484 g771
                  obtain rfl : _ = _ := hu774
                  obtain ⟨y775, hy776, H⟩ := bind_some H
                  obtain ⟨g777, g778, g779, g780⟩ := idx_some hy776; obtain ⟨u781, hj782, hu783⟩ := All2.get h484 g780
                  obtain rfl : _ = _ := hu783
                  obtain ⟨l784, hx785, H⟩ := bind_some H
                  have h786 := upd_els hx785 h484 (show R G487 y757 (.agg #[.int .i64 y757.best.x0, .int .i64 y757.best.x1, .int .i64 y757.at_]) from rfl)
                  obtain ⟨y787, hy788, H⟩ := bind_some H
                  obtain ⟨g789, g790, g791, g792⟩ := idx_some hy788; obtain ⟨u793, hj794, hu795⟩ := All2.get h786 g792
                  obtain rfl : _ = _ := hu795
                  obtain ⟨l796, hx797, H⟩ := bind_some H
                  have h798 := upd_els hx797 h786 (show R G487 y766 (.agg #[.int .i64 y766.best.x0, .int .i64 y766.best.x1, .int .i64 y766.at_]) from rfl)
                  refine E.fewer (env' := [(0, some (.row 1)), (1, some (.v (.int .i64 0))), (2, some (.v (.int .i64 (wr (i485 - 1)))))]) (L' := [.box 25 [.v (.int .i64 p0.Segs), .v (.slice A1 p0.Plans.length c2), .v (.slice A4 p0.Hosts.length c5)], .row 88 3 l482.length es483, .box 83 [.row 1], .row 61 2 l38.length es39, .mp (mE Value.bool m41), .gone, .sav [.p 0 0, .ip 81 2 0, .row 3, .mp 4] vals66, .sav [.ip 81 2 0] vals479, .sav [.ip 81 2 0, .v (.int .i64 (wr (i485 - 1)))] vals488]) (E.sub' ((E.draw mixed (fun (bs : List Bool) (env : Env) (L : List Ent) (Γ : Ghost) => match bs with | [b0', b1', b2', b3', b4', b5', b6', b7', b8', b9', b10', b11', b12', b13', b14', b15'] =>  env = [(6, bif b0' then some (.row 1) else none), (7, bif b1' then some (.v (.int .i64 0)) else none), (8, bif b2' then some (.row 1) else none), (9, bif b3' then some (.v (.int .i64 (wr (i485 - 1)))) else none), (10, bif b4' then some (.row 1) else none), (11, bif b5' then some (.v (.int .i64 (wr (i485 - 1)))) else none), (12, bif b6' then some (.p 1 ((wr (i485 - 1) : Int).toNat * 3)) else none), (13, bif b7' then some (.v (.agg #[.int .i64 y757.best.x0, .int .i64 y757.best.x1, .int .i64 y757.at_])) else none), (14, bif b8' then some (.row 1) else none), (15, bif b9' then some (.v (.int .i64 0)) else none), (16, bif b10' then some (.p 1 ((0 : Int).toNat * 3)) else none), (17, bif b11' then some (.v (.agg #[.int .i64 y766.best.x0, .int .i64 y766.best.x1, .int .i64 y766.at_])) else none), (18, bif b12' then some (.p 1 ((0 : Int).toNat * 3)) else none), (19, bif b14' then some (.p 1 ((wr (i485 - 1) : Int).toNat * 3)) else none), (0, some (.row 1)), (1, some (.v (.int .i64 0))), (2, some (.v (.int .i64 (wr (i485 - 1)))))] ∧ L = [.box 25 [.v (.int .i64 p0.Segs), .v (.slice A1 p0.Plans.length c2), .v (.slice A4 p0.Hosts.length c5)], (bif b15' then .row 88 3 l796.length ((es483.set (0 : Int).toNat (.agg #[.int .i64 y757.best.x0, .int .i64 y757.best.x1, .int .i64 y757.at_])).set (wr (i485 - 1) : Int).toNat (.agg #[.int .i64 y766.best.x0, .int .i64 y766.best.x1, .int .i64 y766.at_])) else bif b13' then .row 88 3 l784.length (es483.set (0 : Int).toNat (.agg #[.int .i64 y757.best.x0, .int .i64 y757.best.x1, .int .i64 y757.at_])) else .row 88 3 l482.length es483), .box 83 [.row 1], .row 61 2 l38.length es39, .mp (mE Value.bool m41), .gone, .sav [.p 0 0, .ip 81 2 0, .row 3, .mp 4] vals66, .sav [.ip 81 2 0] vals479, .sav [.ip 81 2 0, .v (.int .i64 (wr (i485 - 1)))] vals488] ∧ GLe G487 Γ ∧ (b11' = true → b10' = true) ∧ (b13' = true → b11' = true) | _ => False) ⟨rfl, rfl, GLe.refl _, (fun h => nomatch h), (fun h => nomatch h)⟩ rfl ?_ ?_)) ⟨rfl, rfl, rfl, rfl, rfl, rfl, rfl, rfl, rfl, rfl, rfl, rfl, rfl, rfl, rfl, rfl, rfl, trivial⟩) ⟨⟨_, rfl, rfl⟩, ⟨_, rfl, rfl⟩, ⟨_, rfl, rfl⟩, trivial⟩ ⟨.inr rfl, .inr rfl, .inr rfl, .inr rfl, .inr rfl, .inr rfl, .inr rfl, .inr rfl, .inr rfl, trivial⟩ rfl rfl
                  · refine ⟨?_, ?_, ?_, ?_, ?_, ?_, ?_, ?_, ?_, ?_, ?_, ?_, ?_, ?_, ?_, ?_, trivial⟩
                    · intro b0' b1' b2' b3' b4' b5' b6' b7' b8' b9' b10' b11' b12' b13' b14' b15'
                      rintro ⟨⟩ ⟨⟩ ⟨⟩ ⟨⟩ ⟨⟩
                      rintro _ _ G800 ⟨rfl, rfl, hle799, w11_10, w13_11⟩ K hK
                      exact EL.step tabOk rfl (EL.nil (EX.sub' (hK _ _ _ ⟨rfl, rfl, hle799, w11_10, w13_11⟩) ⟨rfl, rfl, rfl, rfl, rfl, rfl, rfl, rfl, rfl, rfl, rfl, rfl, rfl, rfl, rfl, rfl, rfl, trivial⟩))
                    · intro b0' b1' b2' b3' b4' b5' b6' b7' b8' b9' b10' b11' b12' b13' b14' b15'
                      rintro ⟨⟩ ⟨⟩ ⟨⟩ ⟨⟩ ⟨⟩
                      rintro _ _ G802 ⟨rfl, rfl, hle801, w11_10, w13_11⟩ K hK
                      exact EL.step tabOk rfl (EL.nil (EX.sub' (hK _ _ _ ⟨rfl, rfl, hle801, w11_10, w13_11⟩) ⟨rfl, rfl, rfl, rfl, rfl, rfl, rfl, rfl, rfl, rfl, rfl, rfl, rfl, rfl, rfl, rfl, rfl, trivial⟩))
                    · intro b0' b1' b2' b3' b4' b5' b6' b7' b8' b9' b10' b11' b12' b13' b14' b15'
                      rintro ⟨⟩ ⟨⟩ ⟨⟩
                      rintro _ _ G804 ⟨rfl, rfl, hle803, w11_10, w13_11⟩ K hK
                      exact EL.step tabOk rfl (EL.nil (EX.sub' (hK _ _ _ ⟨rfl, rfl, hle803, w11_10, w13_11⟩) ⟨rfl, rfl, rfl, rfl, rfl, rfl, rfl, rfl, rfl, rfl, rfl, rfl, rfl, rfl, rfl, rfl, rfl, trivial⟩))
                    · intro b0' b1' b2' b3' b4' b5' b6' b7' b8' b9' b10' b11' b12' b13' b14' b15'
                      rintro ⟨⟩ ⟨⟩ ⟨⟩
                      rintro _ _ G806 ⟨rfl, rfl, hle805, w11_10, w13_11⟩ K hK
                      exact EL.step tabOk rfl (EL.nil (EX.sub' (hK _ _ _ ⟨rfl, rfl, hle805, w11_10, w13_11⟩) ⟨rfl, rfl, rfl, rfl, rfl, rfl, rfl, rfl, rfl, rfl, rfl, rfl, rfl, rfl, rfl, rfl, rfl, trivial⟩))
                    · intro b0' b1' b2' b3' b4' b5' b6' b7' b8' b9' b10' b11' b12' b13' b14' b15'
                      rintro ⟨⟩ ⟨⟩ ⟨⟩ ⟨⟩ ⟨⟩ ⟨⟩
                      rintro _ _ G808 ⟨rfl, rfl, hle807, w11_10, w13_11⟩ K hK
                      exact EL.step tabOk rfl (EL.nil (EX.sub' (hK _ _ _ ⟨rfl, rfl, hle807, w11_10, w13_11⟩) ⟨rfl, rfl, rfl, rfl, rfl, rfl, rfl, rfl, rfl, rfl, rfl, rfl, rfl, rfl, rfl, rfl, rfl, trivial⟩))
                    · intro b0' b1' b2' b3' b4' b5' b6' b7' b8' b9' b10' b11' b12' b13' b14' b15'
                      rintro ⟨⟩ ⟨⟩ ⟨⟩ ⟨⟩ ⟨⟩ ⟨⟩
                      rintro _ _ G810 ⟨rfl, rfl, hle809, w11_10, w13_11⟩ K hK
                      exact EL.step tabOk rfl (EL.nil (EX.sub' (hK _ _ _ ⟨rfl, rfl, hle809, w11_10, w13_11⟩) ⟨rfl, rfl, rfl, rfl, rfl, rfl, rfl, rfl, rfl, rfl, rfl, rfl, rfl, rfl, rfl, rfl, rfl, trivial⟩))
                    · intro b0' b1' b2' b3' b4' b5' b6' b7' b8' b9' b10' b11' b12' b13' b14' b15'
                      rintro ⟨⟩ ⟨⟩ ⟨⟩ ⟨⟩ ⟨⟩ ⟨⟩ ⟨⟩ ⟨⟩
                      rintro _ _ G812 ⟨rfl, rfl, hle811, w11_10, w13_11⟩ K hK
                      exact EL.indexRow g759 g761 tabOk rfl rfl rfl rfl rfl rfl rfl rfl (EL.nil (EX.sub' (hK _ _ _ ⟨rfl, rfl, hle811, w11_10, w13_11⟩) ⟨rfl, rfl, rfl, rfl, rfl, rfl, rfl, rfl, rfl, rfl, rfl, rfl, rfl, rfl, rfl, rfl, rfl, trivial⟩))
                    · intro b0' b1' b2' b3' b4' b5' b6' b7' b8' b9' b10' b11' b12' b13' b14' b15'
                      rintro ⟨⟩ ⟨⟩ ⟨⟩ ⟨⟩ ⟨⟩ ⟨⟩
                      rintro _ _ G814 ⟨rfl, rfl, hle813, w11_10, w13_11⟩ K hK
                      exact EL.loadRow (j := (wr (i485 - 1) : Int).toNat) (off := 0) (sz := 3) hj764 (part_whole _) tabOk rfl rfl rfl rfl rfl rfl rfl rfl (EL.nil (EX.sub' (hK _ _ _ ⟨rfl, rfl, hle813, w11_10, w13_11⟩) ⟨rfl, rfl, rfl, rfl, rfl, rfl, rfl, rfl, rfl, rfl, rfl, rfl, rfl, rfl, rfl, rfl, rfl, trivial⟩))
                    · intro b0' b1' b2' b3' b4' b5' b6' b7' b8' b9' b10' b11' b12' b13' b14' b15'
                      rintro ⟨⟩ ⟨⟩ ⟨⟩ ⟨⟩
                      rintro _ _ G816 ⟨rfl, rfl, hle815, w11_10, w13_11⟩ K hK
                      obtain rfl : b11' = false := ncl w11_10
                      obtain rfl : b13' = false := ncl w13_11
                      exact EL.step tabOk rfl (EL.nil (EX.sub' (hK _ _ _ ⟨rfl, rfl, hle815, w11_10, w13_11⟩) ⟨rfl, rfl, rfl, rfl, rfl, rfl, rfl, rfl, rfl, rfl, rfl, rfl, rfl, rfl, rfl, rfl, rfl, trivial⟩))
                    · intro b0' b1' b2' b3' b4' b5' b6' b7' b8' b9' b10' b11' b12' b13' b14' b15'
                      rintro ⟨⟩ ⟨⟩ ⟨⟩ ⟨⟩
                      rintro _ _ G818 ⟨rfl, rfl, hle817, w11_10, w13_11⟩ K hK
                      exact EL.step tabOk rfl (EL.nil (EX.sub' (hK _ _ _ ⟨rfl, rfl, hle817, w11_10, w13_11⟩) ⟨rfl, rfl, rfl, rfl, rfl, rfl, rfl, rfl, rfl, rfl, rfl, rfl, rfl, rfl, rfl, rfl, rfl, trivial⟩))
                    · intro b0' b1' b2' b3' b4' b5' b6' b7' b8' b9' b10' b11' b12' b13' b14' b15'
                      rintro ⟨⟩ ⟨⟩ ⟨⟩ ⟨⟩ ⟨⟩ ⟨⟩
                      rintro _ _ G820 ⟨rfl, rfl, hle819, w11_10, w13_11⟩ K hK
                      obtain rfl : b13' = false := ncl w13_11
                      exact EL.indexRow g768 g770 tabOk rfl rfl rfl rfl rfl rfl rfl rfl (EL.nil (EX.sub' (hK _ _ _ ⟨rfl, rfl, hle819, (fun _ => rfl), w13_11⟩) ⟨rfl, rfl, rfl, rfl, rfl, rfl, rfl, rfl, rfl, rfl, rfl, rfl, rfl, rfl, rfl, rfl, rfl, trivial⟩))
                    · intro b0' b1' b2' b3' b4' b5' b6' b7' b8' b9' b10' b11' b12' b13' b14' b15'
                      rintro ⟨⟩ ⟨⟩ ⟨⟩ ⟨⟩ ⟨⟩ ⟨⟩
                      rintro _ _ G822 ⟨rfl, rfl, hle821, w11_10, w13_11⟩ K hK
                      exact EL.loadRow (j := (0 : Int).toNat) (off := 0) (sz := 3) hj773 (part_whole _) tabOk rfl rfl rfl rfl rfl rfl rfl rfl (EL.nil (EX.sub' (hK _ _ _ ⟨rfl, rfl, hle821, (fun _ => rfl), (fun _ => rfl)⟩) ⟨rfl, rfl, rfl, rfl, rfl, rfl, rfl, rfl, rfl, rfl, rfl, rfl, rfl, rfl, rfl, rfl, rfl, trivial⟩))
                    · intro b0' b1' b2' b3' b4' b5' b6' b7' b8' b9' b10' b11' b12' b13' b14' b15'
                      rintro ⟨⟩ ⟨⟩ ⟨⟩ ⟨⟩ ⟨⟩ ⟨⟩ ⟨⟩ ⟨⟩ ⟨⟩ ⟨⟩ ⟨⟩ ⟨⟩ ⟨⟩
                      rintro _ _ G824 ⟨rfl, rfl, hle823, w11_10, w13_11⟩ K hK
                      exact EL.indexRow g777 g779 tabOk rfl rfl rfl rfl rfl rfl rfl rfl (EL.nil (EX.sub' (hK _ _ _ ⟨rfl, rfl, hle823, w11_10, w13_11⟩) ⟨rfl, rfl, rfl, rfl, rfl, rfl, rfl, rfl, rfl, rfl, rfl, rfl, rfl, rfl, rfl, rfl, rfl, trivial⟩))
                    · intro b0' b1' b2' b3' b4' b5' b6' b7' b8' b9' b10' b11' b12' b13' b14' b15'
                      rintro ⟨⟩ ⟨⟩ ⟨⟩ ⟨⟩ ⟨⟩ ⟨⟩ ⟨⟩ ⟨⟩ ⟨⟩ ⟨⟩ ⟨⟩ ⟨⟩
                      rintro _ _ G826 ⟨rfl, rfl, hle825, w11_10, w13_11⟩ K hK
                      have h484 := Els.mono h484 hle825
                      exact EL.updX hx785 h484 (show R _ y757 (.agg #[.int .i64 y757.best.x0, .int .i64 y757.best.x1, .int .i64 y757.at_]) from rfl) tabOk rfl rfl rfl rfl rfl rfl rfl rfl rfl rfl (EL.nil (EX.sub' (hK _ _ _ ⟨rfl, rfl, hle825, w11_10, (fun _ => rfl)⟩) ⟨rfl, rfl, rfl, rfl, rfl, rfl, rfl, rfl, rfl, rfl, rfl, rfl, rfl, rfl, rfl, rfl, rfl, trivial⟩))
                    · intro b0' b1' b2' b3' b4' b5' b6' b7' b8' b9' b10' b11' b12' b13' b14' b15'
                      rintro ⟨⟩ ⟨⟩ ⟨⟩ ⟨⟩ ⟨⟩ ⟨⟩ ⟨⟩ ⟨⟩ ⟨⟩ ⟨⟩ ⟨⟩ ⟨⟩ ⟨⟩ ⟨⟩ ⟨⟩ ⟨⟩ ⟨⟩ ⟨⟩
                      rintro _ _ G828 ⟨rfl, rfl, hle827, w11_10, w13_11⟩ K hK
                      exact EL.indexRow g789 g791 tabOk rfl rfl rfl rfl rfl rfl rfl rfl (EL.nil (EX.sub' (hK _ _ _ ⟨rfl, rfl, hle827, w11_10, w13_11⟩) ⟨rfl, rfl, rfl, rfl, rfl, rfl, rfl, rfl, rfl, rfl, rfl, rfl, rfl, rfl, rfl, rfl, rfl, trivial⟩))
                    · intro b0' b1' b2' b3' b4' b5' b6' b7' b8' b9' b10' b11' b12' b13' b14' b15'
                      rintro ⟨⟩ ⟨⟩ ⟨⟩ ⟨⟩ ⟨⟩ ⟨⟩ ⟨⟩ ⟨⟩ ⟨⟩ ⟨⟩ ⟨⟩ ⟨⟩ ⟨⟩ ⟨⟩ ⟨⟩ ⟨⟩ ⟨⟩ ⟨⟩
                      rintro _ _ G830 ⟨rfl, rfl, hle829, w11_10, w13_11⟩ K hK
                      have h786 := Els.mono h786 hle829
                      exact EL.updX hx797 h786 (show R _ y766 (.agg #[.int .i64 y766.best.x0, .int .i64 y766.best.x1, .int .i64 y766.at_]) from rfl) tabOk rfl rfl rfl rfl rfl rfl rfl rfl rfl rfl (EL.nil (EX.sub' (hK _ _ _ ⟨rfl, rfl, hle829, w11_10, w13_11⟩) ⟨rfl, rfl, rfl, rfl, rfl, rfl, rfl, rfl, rfl, rfl, rfl, rfl, rfl, rfl, rfl, rfl, rfl, trivial⟩))
                  rintro _ _ G832 ⟨rfl, rfl, hle831, w11_10, w13_11⟩
                  have h3 := Rep.mono hle831 h3
                  have h6 := Rep.mono hle831 h6
                  have h798 := Els.mono h798 hle831
                  have h40 := Els.mono h40 hle831
                  exact EX.backVN hB490 ⟨vals488, l796, ((es483.set (0 : Int).toNat (.agg #[.int .i64 y757.best.x0, .int .i64 y757.best.x1, .int .i64 y757.at_])).set (wr (i485 - 1) : Int).toNat (.agg #[.int .i64 y766.best.x0, .int .i64 y766.best.x1, .int .i64 y766.at_])), rfl, rfl, rfl, hle831, h798, H⟩ tabOk rfl ⟨.inr rfl, .inr rfl, .inr rfl, .inr rfl, .inr rfl, .inr rfl, .inr rfl, .inl trivial, .inr rfl, trivial⟩ rfl rfl
              · skip
                intro K480 vals479 hB481
                exact E.seq (E.region (EL.run tabOk 1 rfl (EL.nil (EX.seq (E.seq (E.region (EL.run tabOk 3 rfl (EL.nil (EX.seq (E.ret (EX.back hB481 ⟨vals479, l50, ((l50.length : Nat) : Int), es51, rfl, rfl, rfl, (GLe.refl _), h52, H⟩ tabOk rfl rfl (fun _ => rfl) ⟨.inr rfl, .inr rfl, .inr rfl, .inr rfl, .inr rfl, .inl trivial, .inr rfl, .inr rfl, trivial⟩ rfl rfl rfl)))))))))))
        · skip
          exact E.exit (EX.out (EX.out (EX.hit (EX.fewer (hj26 _ _ _ ⟨l50, l38, m41, es51, es39, rfl, rfl, (GLe.trans hle42 hle54), h52, h40, H⟩) ⟨⟨_, rfl, rfl⟩, trivial⟩ ⟨.inr rfl, .inr rfl, .inr rfl, .inr rfl, .inr rfl, trivial⟩ rfl rfl))))
      · skip
        intro K48 vals47 hB49
        exact E.seq (E.region (EL.run tabOk 1 rfl (EL.nil (EX.seq (E.seq (E.region (EL.run tabOk 3 rfl (EL.nil (EX.seq (E.ret (EX.back hB49 ⟨vals47, l35, ((l35.length : Nat) : Int), es36, rfl, rfl, rfl, (GLe.refl _), h37, H⟩ tabOk rfl rfl (fun _ => rfl) ⟨.inr rfl, .inr rfl, .inr rfl, .inr rfl, .inr rfl, .inr rfl, trivial⟩ rfl rfl rfl)))))))))))
  · skip
    refine E.block (E.fewer (E.loop (fun n env L Γ => ∃ (i833 : Int) (l834 : (List tree_way)) (es835 : List Value), env = [(1, some (.p 0 0)), (3, some (.ip 81 2 0)), (21, some (.v (.slice A1 p0.Plans.length c2))), (22, some (.v (.int .i64 (p0.Plans.length : Int)))), (23, some (.v (.int .i64 i833)))] ∧ L = [.box 25 [.v (.int .i64 p0.Segs), .v (.slice A1 p0.Plans.length c2), .v (.slice A4 p0.Hosts.length c5)], .row 88 3 l834.length es835, .box 83 [.row 1]] ∧ GLe G Γ ∧ Els Γ l834 es835 ∧ loopN (fun _ _ => none) (tree_bests_s42 k p0) n i833 l834 = some r) k ⟨0, ([] : List tree_way), [], rfl, rfl, GLe.refl _, All2.nil, H⟩ ?_) ⟨⟨_, rfl, rfl⟩, ⟨_, rfl, rfl⟩, ⟨_, rfl, rfl⟩, ⟨_, rfl, rfl⟩, ⟨_, rfl, rfl⟩, trivial⟩ ⟨.inr rfl, .inr rfl, .inr rfl, trivial⟩ rfl rfl)
    rintro n841 _ _ G839 ⟨i833, l834, es835, rfl, rfl, hle837, h836, H⟩ K hK840
    obtain _ | n841 := n841
    · exact none_ne H
    rw [loopN] at H; unfold tree_bests_s42 at H
    have h3 := Rep.mono hle837 h3; have h6 := Rep.mono hle837 h6
    refine E.seq (E.region (EL.run tabOk 1 rfl (EL.nil (EX.seq (E.seq (E.cond rfl H (fun hb H => ?_) (fun hb H => ?_)))))))
    · skip
      refine E.skip (EX.seq (E.seq (E.block (E.seq (E.region (EL.run tabOk 1 rfl ?_))))))
      obtain ⟨y842, hy843, H⟩ := bind_some H
      refine EL.index hy843 h3 tabOk rfl rfl rfl rfl rfl rfl rfl rfl (fun b844 o845 u846 hu847 hc848 => ?_)
      obtain ⟨v852, rfl, h851⟩ := hu847
      obtain ⟨A849, c850, rfl, h851⟩ := Sl.open h851
      refine EL.load hc848 tabOk rfl rfl rfl rfl rfl rfl (EL.run tabOk 3 rfl (EL.nil (EX.seq (E.region (EL.run tabOk 7 rfl (EL.inl [1, 3, 21, 22, 23] rfl rfl rfl rfl rfl rfl Try.func36 container_heap_Push_enters rfl Try.ntmps36 rfl rfl (fun L Γ ks s => ∃ (vals853 : List Value) (l856 : (List tree_way)) (es857 : List Value), L = [.box 25 [.v (.int .i64 p0.Segs), .v (.slice A1 p0.Plans.length c2), .v (.slice A4 p0.Hosts.length c5)], .row 88 3 l856.length es857, .box 83 [.row 1], .box 33 [.v (.int .i64 y842.ID), .v (.slice A849 y842.Ports.length c850)], .sav [.p 0 0, .ip 81 2 0, .v (.slice A1 p0.Plans.length c2), .v (.int .i64 (p0.Plans.length : Int)), .v (.int .i64 i833)] vals853] ∧ ks = [.p 0 0, .ip 81 2 0, .v (.slice A1 p0.Plans.length c2), .v (.int .i64 (p0.Plans.length : Int)), .v (.int .i64 i833)] ∧ s = .v (.tuple #[]) ∧ GLe G839 Γ ∧ Els Γ l856 es857 ∧ tree_bests_j33 k i833 (loopN (fun _ _ => none) (tree_bests_s42 k p0) n841) l856 = some r) ?_ ?_))))))
      · skip
        rintro _ G860 _ _ ⟨vals853, l856, es857, rfl, rfl, rfl, hle859, h858, H⟩
        unfold tree_bests_j33 at H
        have h3 := Rep.mono hle859 h3; have h6 := Rep.mono hle859 h6; have h851 := Rep.mono hle859 h851
        exact EL.nil (EX.block (EX.seq (E.region (EL.run tabOk 2 rfl (EL.nil (EX.fewer (hK840 n841 _ _ _ (Nat.lt_succ_self _) ⟨wr (i833 + 1), l856, es857, rfl, rfl, (GLe.trans hle837 hle859), h858, H⟩) ⟨⟨_, rfl, rfl⟩, ⟨_, rfl, rfl⟩, ⟨_, rfl, rfl⟩, ⟨_, rfl, rfl⟩, ⟨_, rfl, rfl⟩, trivial⟩ ⟨.inr rfl, .inr rfl, .inr rfl, trivial⟩ rfl rfl))))))
      · skip
        intro K854 vals853 hB855
        refine E.seq (E.region (EL.run tabOk 2 rfl (EL.inv [0] rfl rfl rfl rfl rfl (mth_ptr mth_81_Push rfl) Try.func84 tree_ways_Push_enters rfl Try.ntmps84 rfl rfl (fun L Γ ks s => ∃ (vals861 : List Value) (l864 : (List tree_way)) (es865 : List Value), L = [.box 25 [.v (.int .i64 p0.Segs), .v (.slice A1 p0.Plans.length c2), .v (.slice A4 p0.Hosts.length c5)], .row 88 3 l864.length es865, .box 83 [.row 1], .box 33 [.v (.int .i64 y842.ID), .v (.slice A849 y842.Ports.length c850)], .sav [.p 0 0, .ip 81 2 0, .v (.slice A1 p0.Plans.length c2), .v (.int .i64 (p0.Plans.length : Int)), .v (.int .i64 i833)] vals853, .sav [.ip 81 2 0] vals861] ∧ ks = [.ip 81 2 0] ∧ s = .v (.tuple #[]) ∧ GLe G839 Γ ∧ Els Γ l864 es865 ∧ tree_bests_j41 k i833 (loopN (fun _ _ => none) (tree_bests_s42 k p0) n841) l864 = some r) ?_ ?_)))
        · skip
          rintro _ G868 _ _ ⟨vals861, l864, es865, rfl, rfl, rfl, hle867, h866, H⟩
          unfold tree_bests_j41 at H
          have h3 := Rep.mono hle867 h3; have h6 := Rep.mono hle867 h6; have h851 := Rep.mono hle867 h851
          refine EL.nil (EX.seq (E.region (EL.run tabOk 2 rfl (EL.inv [7] rfl rfl rfl rfl rfl (mth_val tabOk mth_81_Len rfl rfl) Try.func81 tree_ways_Len_enters rfl Try.ntmps81 rfl rfl (fun L Γ ks s => ∃ (vals869 : List Value) (l872 : (List tree_way)) (i875 : Int) (es873 : List Value), L = [.box 25 [.v (.int .i64 p0.Segs), .v (.slice A1 p0.Plans.length c2), .v (.slice A4 p0.Hosts.length c5)], .row 88 3 l872.length es873, .box 83 [.row 1], .box 33 [.v (.int .i64 y842.ID), .v (.slice A849 y842.Ports.length c850)], .sav [.p 0 0, .ip 81 2 0, .v (.slice A1 p0.Plans.length c2), .v (.int .i64 (p0.Plans.length : Int)), .v (.int .i64 i833)] vals853, .gone, .sav [.ip 81 2 0] vals869] ∧ ks = [.ip 81 2 0] ∧ s = .v (.int .i64 i875) ∧ GLe G868 Γ ∧ Els Γ l872 es873 ∧ tree_bests_j40 k i833 (loopN (fun _ _ => none) (tree_bests_s42 k p0) n841) l872 i875 = some r) ?_ ?_))))
          · skip
            rintro _ G877 _ _ ⟨vals869, l872, i875, es873, rfl, rfl, rfl, hle876, h874, H⟩
            unfold tree_bests_j40 at H
            have h3 := Rep.mono hle876 h3; have h6 := Rep.mono hle876 h6; have h851 := Rep.mono hle876 h851
            refine EL.run tabOk 1 rfl (EL.inl [] rfl rfl rfl rfl rfl rfl Try.func53 container_heap_up_enters rfl Try.ntmps53 rfl rfl (fun L Γ ks s => ∃ (vals878 : List Value) (l881 : (List tree_way)) (es882 : List Value), L = [.box 25 [.v (.int .i64 p0.Segs), .v (.slice A1 p0.Plans.length c2), .v (.slice A4 p0.Hosts.length c5)], .row 88 3 l881.length es882, .box 83 [.row 1], .box 33 [.v (.int .i64 y842.ID), .v (.slice A849 y842.Ports.length c850)], .sav [.p 0 0, .ip 81 2 0, .v (.slice A1 p0.Plans.length c2), .v (.int .i64 (p0.Plans.length : Int)), .v (.int .i64 i833)] vals853, .gone, .gone, .sav [] vals878] ∧ ks = [] ∧ s = .v (.tuple #[]) ∧ GLe G877 Γ ∧ Els Γ l881 es882 ∧ tree_bests_j34 k i833 (loopN (fun _ _ => none) (tree_bests_s42 k p0) n841) l881 = some r) ?_ ?_)
            · skip
              rintro _ G885 _ _ ⟨vals878, l881, es882, rfl, rfl, rfl, hle884, h883, H⟩
              unfold tree_bests_j34 at H
              have h3 := Rep.mono hle884 h3; have h6 := Rep.mono hle884 h6; have h851 := Rep.mono hle884 h851
              exact EL.nil (EX.backVN hB855 ⟨vals853, l881, es882, rfl, rfl, rfl, (GLe.trans (GLe.trans hle867 hle876) hle884), h883, H⟩ tabOk rfl ⟨.inr rfl, .inr rfl, .inr rfl, .inr rfl, .inr rfl, trivial⟩ rfl rfl)
            · skip
              intro K879 vals878 hB880
              refine E.join (fun env L Γ => ∃ (l886 : (List tree_way)) (es887 : List Value), env = [] ∧ L = [.box 25 [.v (.int .i64 p0.Segs), .v (.slice A1 p0.Plans.length c2), .v (.slice A4 p0.Hosts.length c5)], .row 88 3 l886.length es887, .box 83 [.row 1], .box 33 [.v (.int .i64 y842.ID), .v (.slice A849 y842.Ports.length c850)], .sav [.p 0 0, .ip 81 2 0, .v (.slice A1 p0.Plans.length c2), .v (.int .i64 (p0.Plans.length : Int)), .v (.int .i64 i833)] vals853, .gone, .gone, .sav [] vals878] ∧ GLe G877 Γ ∧ Els Γ l886 es887 ∧ tree_bests_j35 k i833 (loopN (fun _ _ => none) (tree_bests_s42 k p0) n841) l886 = some r) ?_ (fun hj889 => ?_)
              · skip
                rintro _ _ G891 ⟨l886, es887, rfl, rfl, hle890, h888, H⟩
                unfold tree_bests_j35 at H
                have h3 := Rep.mono hle890 h3; have h6 := Rep.mono hle890 h6; have h851 := Rep.mono hle890 h851
                exact EX.backVN hB880 ⟨vals878, l886, es887, rfl, rfl, rfl, hle890, h888, H⟩ tabOk rfl ⟨.inr rfl, .inr rfl, .inr rfl, .inr rfl, .inr rfl, .inr rfl, .inr rfl, .inr rfl, trivial⟩ rfl rfl
              · skip
                refine E.block (E.fewer (E.loop (fun n env L Γ => ∃ (i892 : Int) (l893 : (List tree_way)) (es894 : List Value), env = [(0, some (.ip 81 2 0)), (1, some (.v (.int .i64 i892)))] ∧ L = [.box 25 [.v (.int .i64 p0.Segs), .v (.slice A1 p0.Plans.length c2), .v (.slice A4 p0.Hosts.length c5)], .row 88 3 l893.length es894, .box 83 [.row 1], .box 33 [.v (.int .i64 y842.ID), .v (.slice A849 y842.Ports.length c850)], .sav [.p 0 0, .ip 81 2 0, .v (.slice A1 p0.Plans.length c2), .v (.int .i64 (p0.Plans.length : Int)), .v (.int .i64 i833)] vals853, .gone, .gone, .sav [] vals878] ∧ GLe G877 Γ ∧ Els Γ l893 es894 ∧ loopN (fun _ _ => none) (tree_bests_s39 k i833 (loopN (fun _ _ => none) (tree_bests_s42 k p0) n841)) n i892 l893 = some r) k ⟨wr (i875 - 1), l872, es873, rfl, rfl, GLe.refl _, h874, H⟩ ?_) ⟨⟨_, rfl, rfl⟩, ⟨_, rfl, rfl⟩, trivial⟩ ⟨.inr rfl, .inr rfl, .inr rfl, .inr rfl, .inr rfl, .inr rfl, .inl trivial, .inr rfl, trivial⟩ rfl rfl)
                rintro n900 _ _ G898 ⟨i892, l893, es894, rfl, rfl, hle896, h895, H⟩ K hK899
                obtain _ | n900 := n900
                · exact none_ne H
                rw [loopN] at H; unfold tree_bests_s39 at H
                have h3 := Rep.mono hle896 h3; have h6 := Rep.mono hle896 h6; have h851 := Rep.mono hle896 h851
                refine E.block (E.seq (E.region (EL.run tabOk 2 rfl ?_)))
                obtain ⟨i901, hq902, H⟩ := bind_some H
                refine EL.quo hq902 rfl rfl rfl rfl rfl (EL.run tabOk 1 rfl (EL.nil (EX.seq (E.seq (E.seq (E.join (fun env L Γ => ∃ (b903 : Bool) (l904 : (List tree_way)) (es905 : List Value), env = [(0, some (.ip 81 2 0)), (1, some (.v (.int .i64 i892))), (4, some (.v (.int .i64 i901))), (17, some (.v (.bool b903)))] ∧ L = [.box 25 [.v (.int .i64 p0.Segs), .v (.slice A1 p0.Plans.length c2), .v (.slice A4 p0.Hosts.length c5)], .row 88 3 l904.length es905, .box 83 [.row 1], .box 33 [.v (.int .i64 y842.ID), .v (.slice A849 y842.Ports.length c850)], .sav [.p 0 0, .ip 81 2 0, .v (.slice A1 p0.Plans.length c2), .v (.int .i64 (p0.Plans.length : Int)), .v (.int .i64 i833)] vals853, .gone, .gone, .sav [] vals878] ∧ GLe G898 Γ ∧ Els Γ l904 es905 ∧ tree_bests_j37 k i833 (loopN (fun _ _ => none) (tree_bests_s42 k p0) n841) i892 (loopN (fun _ _ => none) (tree_bests_s39 k i833 (loopN (fun _ _ => none) (tree_bests_s42 k p0) n841)) n900) i901 b903 l904 = some r) ?_ (fun hj907 => ?_)))))))
                · skip
                  rintro _ _ G909 ⟨b903, l904, es905, rfl, rfl, hle908, h906, H⟩
                  unfold tree_bests_j37 at H
                  have h3 := Rep.mono hle908 h3; have h6 := Rep.mono hle908 h6; have h851 := Rep.mono hle908 h851
                  refine EX.seq (E.cond rfl H (fun hb H => ?_) (fun hb H => ?_))
                  · skip
                    exact E.exit (EX.out (EX.miss rfl (EX.out (EX.hit (EX.fewer (hj889 _ _ _ ⟨l904, es905, rfl, rfl, (GLe.trans hle896 hle908), h906, H⟩) trivial ⟨.inr rfl, .inr rfl, .inr rfl, .inr rfl, .inr rfl, .inr rfl, .inr rfl, .inr rfl, trivial⟩ rfl rfl)))))
                  · skip
                    refine E.skip (EX.seq (E.seq (E.region (EL.run tabOk 3 rfl (EL.inv [0, 4] rfl rfl rfl rfl rfl (mth_val tabOk mth_81_Swap rfl rfl) Try.func85 tree_ways_Swap_enters rfl Try.ntmps85 rfl rfl (fun L Γ ks s => ∃ (vals910 : List Value) (l913 : (List tree_way)) (es914 : List Value), L = [.box 25 [.v (.int .i64 p0.Segs), .v (.slice A1 p0.Plans.length c2), .v (.slice A4 p0.Hosts.length c5)], .row 88 3 l913.length es914, .box 83 [.row 1], .box 33 [.v (.int .i64 y842.ID), .v (.slice A849 y842.Ports.length c850)], .sav [.p 0 0, .ip 81 2 0, .v (.slice A1 p0.Plans.length c2), .v (.int .i64 (p0.Plans.length : Int)), .v (.int .i64 i833)] vals853, .gone, .gone, .sav [] vals878, .sav [.ip 81 2 0, .v (.int .i64 i901)] vals910] ∧ ks = [.ip 81 2 0, .v (.int .i64 i901)] ∧ s = .v (.tuple #[]) ∧ GLe G909 Γ ∧ Els Γ l913 es914 ∧ tree_bests_j36 k (loopN (fun _ _ => none) (tree_bests_s39 k i833 (loopN (fun _ _ => none) (tree_bests_s42 k p0) n841)) n900) i901 l913 = some r) ?_ ?_)))))
                    · skip
                      rintro _ G917 _ _ ⟨vals910, l913, es914, rfl, rfl, rfl, hle916, h915, H⟩
                      unfold tree_bests_j36 at H
                      have h3 := Rep.mono hle916 h3; have h6 := Rep.mono hle916 h6; have h851 := Rep.mono hle916 h851
                      exact EL.nil (EX.seq (E.region (EL.run tabOk 2 rfl (EL.nil (EX.block (EX.fewer (hK899 n900 _ _ _ (Nat.lt_succ_self _) ⟨i901, l913, es914, rfl, rfl, (GLe.trans (GLe.trans hle896 hle908) hle916), h915, H⟩) ⟨⟨_, rfl, rfl⟩, ⟨_, rfl, rfl⟩, trivial⟩ ⟨.inr rfl, .inr rfl, .inr rfl, .inr rfl, .inr rfl, .inr rfl, .inr rfl, .inr rfl, trivial⟩ rfl rfl))))))
                    · skip
                      intro K911 vals910 hB912
                      obtain ⟨y918, hy919, H⟩ := bind_some H
                      obtain ⟨g920, g921, g922, g923⟩ := idx_some hy919; obtain ⟨u924, hj925, hu926⟩ := All2.get h906 g923
                      obtain rfl : _ = _ := hu926
                      obtain ⟨y927, hy928, H⟩ := bind_some H
                      obtain ⟨g929, g930, g931, g932⟩ := idx_some hy928; obtain ⟨u933, hj934, hu935⟩ := All2.get h906 g932
                      obtain rfl : _ = _ := hu935
                      obtain ⟨y936, hy937, H⟩ := bind_some H
                      obtain ⟨g938, g939, g940, g941⟩ := idx_some hy937; obtain ⟨u942, hj943, hu944⟩ := All2.get h906 g941
                      obtain rfl : _ = _ := hu944
                      obtain ⟨l945, hx946, H⟩ := bind_some H
                      have h947 := upd_els hx946 h906 (show R G909 y918 (.agg #[.int .i64 y918.best.x0, .int .i64 y918.best.x1, .int .i64 y918.at_]) from rfl)
                      obtain ⟨y948, hy949, H⟩ := bind_some H
                      obtain ⟨g950, g951, g952, g953⟩ := idx_some hy949; obtain ⟨u954, hj955, hu956⟩ := All2.get h947 g953
                      obtain rfl : _ = _ := hu956
                      obtain ⟨l957, hx958, H⟩ := bind_some H
                      have h959 := upd_els hx958 h947 (show R G909 y927 (.agg #[.int .i64 y927.best.x0, .int .i64 y927.best.x1, .int .i64 y927.at_]) from rfl)
                      refine E.fewer (env' := [(0, some (.row 1)), (1, some (.v (.int .i64 i901))), (2, some (.v (.int .i64 i892)))]) (L' := [.box 25 [.v (.int .i64 p0.Segs), .v (.slice A1 p0.Plans.length c2), .v (.slice A4 p0.Hosts.length c5)], .row 88 3 l904.length es905, .box 83 [.row 1], .box 33 [.v (.int .i64 y842.ID), .v (.slice A849 y842.Ports.length c850)], .sav [.p 0 0, .ip 81 2 0, .v (.slice A1 p0.Plans.length c2), .v (.int .i64 (p0.Plans.length : Int)), .v (.int .i64 i833)] vals853, .gone, .gone, .sav [] vals878, .sav [.ip 81 2 0, .v (.int .i64 i901)] vals910]) (E.sub' ((E.draw mixed (fun (bs : List Bool) (env : Env) (L : List Ent) (Γ : Ghost) => match bs with | [b0', b1', b2', b3', b4', b5', b6', b7', b8', b9', b10', b11', b12', b13', b14', b15'] =>  env = [(6, bif b0' then some (.row 1) else none), (7, bif b1' then some (.v (.int .i64 i901)) else none), (8, bif b2' then some (.row 1) else none), (9, bif b3' then some (.v (.int .i64 i892)) else none), (10, bif b4' then some (.row 1) else none), (11, bif b5' then some (.v (.int .i64 i892)) else none), (12, bif b6' then some (.p 1 ((i892 : Int).toNat * 3)) else none), (13, bif b7' then some (.v (.agg #[.int .i64 y918.best.x0, .int .i64 y918.best.x1, .int .i64 y918.at_])) else none), (14, bif b8' then some (.row 1) else none), (15, bif b9' then some (.v (.int .i64 i901)) else none), (16, bif b10' then some (.p 1 ((i901 : Int).toNat * 3)) else none), (17, bif b11' then some (.v (.agg #[.int .i64 y927.best.x0, .int .i64 y927.best.x1, .int .i64 y927.at_])) else none), (18, bif b12' then some (.p 1 ((i901 : Int).toNat * 3)) else none), (19, bif b14' then some (.p 1 ((i892 : Int).toNat * 3)) else none), (0, some (.row 1)), (1, some (.v (.int .i64 i901))), (2, some (.v (.int .i64 i892)))] ∧ L = [.box 25 [.v (.int .i64 p0.Segs), .v (.slice A1 p0.Plans.length c2), .v (.slice A4 p0.Hosts.length c5)], (bif b15' then .row 88 3 l957.length ((es905.set (i901 : Int).toNat (.agg #[.int .i64 y918.best.x0, .int .i64 y918.best.x1, .int .i64 y918.at_])).set (i892 : Int).toNat (.agg #[.int .i64 y927.best.x0, .int .i64 y927.best.x1, .int .i64 y927.at_])) else bif b13' then .row 88 3 l945.length (es905.set (i901 : Int).toNat (.agg #[.int .i64 y918.best.x0, .int .i64 y918.best.x1, .int .i64 y918.at_])) else .row 88 3 l904.length es905), .box 83 [.row 1], .box 33 [.v (.int .i64 y842.ID), .v (.slice A849 y842.Ports.length c850)], .sav [.p 0 0, .ip 81 2 0, .v (.slice A1 p0.Plans.length c2), .v (.int .i64 (p0.Plans.length : Int)), .v (.int .i64 i833)] vals853, .gone, .gone, .sav [] vals878, .sav [.ip 81 2 0, .v (.int .i64 i901)] vals910] ∧ GLe G909 Γ ∧ (b11' = true → b10' = true) ∧ (b13' = true → b11' = true) | _ => False) ⟨rfl, rfl, GLe.refl _, (fun h => nomatch h), (fun h => nomatch h)⟩ rfl ?_ ?_)) ⟨rfl, rfl, rfl, rfl, rfl, rfl, rfl, rfl, rfl, rfl, rfl, rfl, rfl, rfl, rfl, rfl, rfl, trivial⟩) ⟨⟨_, rfl, rfl⟩, ⟨_, rfl, rfl⟩, ⟨_, rfl, rfl⟩, trivial⟩ ⟨.inr rfl, .inr rfl, .inr rfl, .inr rfl, .inr rfl, .inr rfl, .inr rfl, .inr rfl, .inr rfl, trivial⟩ rfl rfl
                      · refine ⟨?_, ?_, ?_, ?_, ?_, ?_, ?_, ?_, ?_, ?_, ?_, ?_, ?_, ?_, ?_, ?_, trivial⟩
                        · intro b0' b1' b2' b3' b4' b5' b6' b7' b8' b9' b10' b11' b12' b13' b14' b15'
                          rintro ⟨⟩ ⟨⟩ ⟨⟩ ⟨⟩ ⟨⟩
                          rintro _ _ G961 ⟨rfl, rfl, hle960, w11_10, w13_11⟩ K hK
                          exact EL.step tabOk rfl (EL.nil (EX.sub' (hK _ _ _ ⟨rfl, rfl, hle960, w11_10, w13_11⟩) ⟨rfl, rfl, rfl, rfl, rfl, rfl, rfl, rfl, rfl, rfl, rfl, rfl, rfl, rfl, rfl, rfl, rfl, trivial⟩))
                        · intro b0' b1' b2' b3' b4' b5' b6' b7' b8' b9' b10' b11' b12' b13' b14' b15'
                          rintro ⟨⟩ ⟨⟩ ⟨⟩ ⟨⟩ ⟨⟩
                          rintro _ _ G963 ⟨rfl, rfl, hle962, w11_10, w13_11⟩ K hK
                          exact EL.step tabOk rfl (EL.nil (EX.sub' (hK _ _ _ ⟨rfl, rfl, hle962, w11_10, w13_11⟩) ⟨rfl, rfl, rfl, rfl, rfl, rfl, rfl, rfl, rfl, rfl, rfl, rfl, rfl, rfl, rfl, rfl, rfl, trivial⟩))
                        · intro b0' b1' b2' b3' b4' b5' b6' b7' b8' b9' b10' b11' b12' b13' b14' b15'
                          rintro ⟨⟩ ⟨⟩ ⟨⟩
                          rintro _ _ G965 ⟨rfl, rfl, hle964, w11_10, w13_11⟩ K hK
                          exact EL.step tabOk rfl (EL.nil (EX.sub' (hK _ _ _ ⟨rfl, rfl, hle964, w11_10, w13_11⟩) ⟨rfl, rfl, rfl, rfl, rfl, rfl, rfl, rfl, rfl, rfl, rfl, rfl, rfl, rfl, rfl, rfl, rfl, trivial⟩))
                        · intro b0' b1' b2' b3' b4' b5' b6' b7' b8' b9' b10' b11' b12' b13' b14' b15'
                          rintro ⟨⟩ ⟨⟩ ⟨⟩
                          rintro _ _ G967 ⟨rfl, rfl, hle966, w11_10, w13_11⟩ K hK
                          exact EL.step tabOk rfl (EL.nil (EX.sub' (hK _ _ _ ⟨rfl, rfl, hle966, w11_10, w13_11⟩) ⟨rfl, rfl, rfl, rfl, rfl, rfl, rfl, rfl, rfl, rfl, rfl, rfl, rfl, rfl, rfl, rfl, rfl, trivial⟩))
                        · intro b0' b1' b2' b3' b4' b5' b6' b7' b8' b9' b10' b11' b12' b13' b14' b15'
                          rintro ⟨⟩ ⟨⟩ ⟨⟩ ⟨⟩ ⟨⟩ ⟨⟩
                          rintro _ _ G969 ⟨rfl, rfl, hle968, w11_10, w13_11⟩ K hK
                          exact EL.step tabOk rfl (EL.nil (EX.sub' (hK _ _ _ ⟨rfl, rfl, hle968, w11_10, w13_11⟩) ⟨rfl, rfl, rfl, rfl, rfl, rfl, rfl, rfl, rfl, rfl, rfl, rfl, rfl, rfl, rfl, rfl, rfl, trivial⟩))
                        · intro b0' b1' b2' b3' b4' b5' b6' b7' b8' b9' b10' b11' b12' b13' b14' b15'
                          rintro ⟨⟩ ⟨⟩ ⟨⟩ ⟨⟩ ⟨⟩ ⟨⟩
                          rintro _ _ G971 ⟨rfl, rfl, hle970, w11_10, w13_11⟩ K hK
                          exact EL.step tabOk rfl (EL.nil (EX.sub' (hK _ _ _ ⟨rfl, rfl, hle970, w11_10, w13_11⟩) ⟨rfl, rfl, rfl, rfl, rfl, rfl, rfl, rfl, rfl, rfl, rfl, rfl, rfl, rfl, rfl, rfl, rfl, trivial⟩))
                        · intro b0' b1' b2' b3' b4' b5' b6' b7' b8' b9' b10' b11' b12' b13' b14' b15'
                          rintro ⟨⟩ ⟨⟩ ⟨⟩ ⟨⟩ ⟨⟩ ⟨⟩ ⟨⟩ ⟨⟩
                          rintro _ _ G973 ⟨rfl, rfl, hle972, w11_10, w13_11⟩ K hK
                          exact EL.indexRow g920 g922 tabOk rfl rfl rfl rfl rfl rfl rfl rfl (EL.nil (EX.sub' (hK _ _ _ ⟨rfl, rfl, hle972, w11_10, w13_11⟩) ⟨rfl, rfl, rfl, rfl, rfl, rfl, rfl, rfl, rfl, rfl, rfl, rfl, rfl, rfl, rfl, rfl, rfl, trivial⟩))
                        · intro b0' b1' b2' b3' b4' b5' b6' b7' b8' b9' b10' b11' b12' b13' b14' b15'
                          rintro ⟨⟩ ⟨⟩ ⟨⟩ ⟨⟩ ⟨⟩ ⟨⟩
                          rintro _ _ G975 ⟨rfl, rfl, hle974, w11_10, w13_11⟩ K hK
                          exact EL.loadRow (j := (i892 : Int).toNat) (off := 0) (sz := 3) hj925 (part_whole _) tabOk rfl rfl rfl rfl rfl rfl rfl rfl (EL.nil (EX.sub' (hK _ _ _ ⟨rfl, rfl, hle974, w11_10, w13_11⟩) ⟨rfl, rfl, rfl, rfl, rfl, rfl, rfl, rfl, rfl, rfl, rfl, rfl, rfl, rfl, rfl, rfl, rfl, trivial⟩))
                        · intro b0' b1' b2' b3' b4' b5' b6' b7' b8' b9' b10' b11' b12' b13' b14' b15'
                          rintro ⟨⟩ ⟨⟩ ⟨⟩ ⟨⟩
                          rintro _ _ G977 ⟨rfl, rfl, hle976, w11_10, w13_11⟩ K hK
                          obtain rfl : b11' = false := ncl w11_10
                          obtain rfl : b13' = false := ncl w13_11
                          exact EL.step tabOk rfl (EL.nil (EX.sub' (hK _ _ _ ⟨rfl, rfl, hle976, w11_10, w13_11⟩) ⟨rfl, rfl, rfl, rfl, rfl, rfl, rfl, rfl, rfl, rfl, rfl, rfl, rfl, rfl, rfl, rfl, rfl, trivial⟩))
                        · intro b0' b1' b2' b3' b4' b5' b6' b7' b8' b9' b10' b11' b12' b13' b14' b15'
                          rintro ⟨⟩ ⟨⟩ ⟨⟩ ⟨⟩
                          rintro _ _ G979 ⟨rfl, rfl, hle978, w11_10, w13_11⟩ K hK
                          exact EL.step tabOk rfl (EL.nil (EX.sub' (hK _ _ _ ⟨rfl, rfl, hle978, w11_10, w13_11⟩) ⟨rfl, rfl, rfl, rfl, rfl, rfl, rfl, rfl, rfl, rfl, rfl, rfl, rfl, rfl, rfl, rfl, rfl, trivial⟩))
                        · intro b0' b1' b2' b3' b4' b5' b6' b7' b8' b9' b10' b11' b12' b13' b14' b15'
                          rintro ⟨⟩ ⟨⟩ ⟨⟩ ⟨⟩ ⟨⟩ ⟨⟩
                          rintro _ _ G981 ⟨rfl, rfl, hle980, w11_10, w13_11⟩ K hK
                          obtain rfl : b13' = false := ncl w13_11
                          exact EL.indexRow g929 g931 tabOk rfl rfl rfl rfl rfl rfl rfl rfl (EL.nil (EX.sub' (hK _ _ _ ⟨rfl, rfl, hle980, (fun _ => rfl), w13_11⟩) ⟨rfl, rfl, rfl, rfl, rfl, rfl, rfl, rfl, rfl, rfl, rfl, rfl, rfl, rfl, rfl, rfl, rfl, trivial⟩))
                        · intro b0' b1' b2' b3' b4' b5' b6' b7' b8' b9' b10' b11' b12' b13' b14' b15'
                          rintro ⟨⟩ ⟨⟩ ⟨⟩ ⟨⟩ ⟨⟩ ⟨⟩
                          rintro _ _ G983 ⟨rfl, rfl, hle982, w11_10, w13_11⟩ K hK
                          exact EL.loadRow (j := (i901 : Int).toNat) (off := 0) (sz := 3) hj934 (part_whole _) tabOk rfl rfl rfl rfl rfl rfl rfl rfl (EL.nil (EX.sub' (hK _ _ _ ⟨rfl, rfl, hle982, (fun _ => rfl), (fun _ => rfl)⟩) ⟨rfl, rfl, rfl, rfl, rfl, rfl, rfl, rfl, rfl, rfl, rfl, rfl, rfl, rfl, rfl, rfl, rfl, trivial⟩))
                        · intro b0' b1' b2' b3' b4' b5' b6' b7' b8' b9' b10' b11' b12' b13' b14' b15'
                          rintro ⟨⟩ ⟨⟩ ⟨⟩ ⟨⟩ ⟨⟩ ⟨⟩ ⟨⟩ ⟨⟩ ⟨⟩ ⟨⟩ ⟨⟩ ⟨⟩ ⟨⟩
                          rintro _ _ G985 ⟨rfl, rfl, hle984, w11_10, w13_11⟩ K hK
                          exact EL.indexRow g938 g940 tabOk rfl rfl rfl rfl rfl rfl rfl rfl (EL.nil (EX.sub' (hK _ _ _ ⟨rfl, rfl, hle984, w11_10, w13_11⟩) ⟨rfl, rfl, rfl, rfl, rfl, rfl, rfl, rfl, rfl, rfl, rfl, rfl, rfl, rfl, rfl, rfl, rfl, trivial⟩))
                        · intro b0' b1' b2' b3' b4' b5' b6' b7' b8' b9' b10' b11' b12' b13' b14' b15'
                          rintro ⟨⟩ ⟨⟩ ⟨⟩ ⟨⟩ ⟨⟩ ⟨⟩ ⟨⟩ ⟨⟩ ⟨⟩ ⟨⟩ ⟨⟩ ⟨⟩
                          rintro _ _ G987 ⟨rfl, rfl, hle986, w11_10, w13_11⟩ K hK
                          have h906 := Els.mono h906 hle986
                          exact EL.updX hx946 h906 (show R _ y918 (.agg #[.int .i64 y918.best.x0, .int .i64 y918.best.x1, .int .i64 y918.at_]) from rfl) tabOk rfl rfl rfl rfl rfl rfl rfl rfl rfl rfl (EL.nil (EX.sub' (hK _ _ _ ⟨rfl, rfl, hle986, w11_10, (fun _ => rfl)⟩) ⟨rfl, rfl, rfl, rfl, rfl, rfl, rfl, rfl, rfl, rfl, rfl, rfl, rfl, rfl, rfl, rfl, rfl, trivial⟩))
                        · intro b0' b1' b2' b3' b4' b5' b6' b7' b8' b9' b10' b11' b12' b13' b14' b15'
                          rintro ⟨⟩ ⟨⟩ ⟨⟩ ⟨⟩ ⟨⟩ ⟨⟩ ⟨⟩ ⟨⟩ ⟨⟩ ⟨⟩ ⟨⟩ ⟨⟩ ⟨⟩ ⟨⟩ ⟨⟩ ⟨⟩ ⟨⟩ ⟨⟩
                          rintro _ _ G989 ⟨rfl, rfl, hle988, w11_10, w13_11⟩ K hK
                          exact EL.indexRow g950 g952 tabOk rfl rfl rfl rfl rfl rfl rfl rfl (EL.nil (EX.sub' (hK _ _ _ ⟨rfl, rfl, hle988, w11_10, w13_11⟩) ⟨rfl, rfl, rfl, rfl, rfl, rfl, rfl, rfl, rfl, rfl, rfl, rfl, rfl, rfl, rfl, rfl, rfl, trivial⟩))
                        · intro b0' b1' b2' b3' b4' b5' b6' b7' b8' b9' b10' b11' b12' b13' b14' b15'
                          rintro ⟨⟩ ⟨⟩ ⟨⟩ ⟨⟩ ⟨⟩ ⟨⟩ ⟨⟩ ⟨⟩ ⟨⟩ ⟨⟩ ⟨⟩ ⟨⟩ ⟨⟩ ⟨⟩ ⟨⟩ ⟨⟩ ⟨⟩ ⟨⟩
                          rintro _ _ G991 ⟨rfl, rfl, hle990, w11_10, w13_11⟩ K hK
                          have h947 := Els.mono h947 hle990
                          exact EL.updX hx958 h947 (show R _ y927 (.agg #[.int .i64 y927.best.x0, .int .i64 y927.best.x1, .int .i64 y927.at_]) from rfl) tabOk rfl rfl rfl rfl rfl rfl rfl rfl rfl rfl (EL.nil (EX.sub' (hK _ _ _ ⟨rfl, rfl, hle990, w11_10, w13_11⟩) ⟨rfl, rfl, rfl, rfl, rfl, rfl, rfl, rfl, rfl, rfl, rfl, rfl, rfl, rfl, rfl, rfl, rfl, trivial⟩))
                      rintro _ _ G993 ⟨rfl, rfl, hle992, w11_10, w13_11⟩
                      have h3 := Rep.mono hle992 h3
                      have h6 := Rep.mono hle992 h6
                      have h959 := Els.mono h959 hle992
                      have h851 := Rep.mono hle992 h851
                      exact EX.backVN hB912 ⟨vals910, l957, ((es905.set (i901 : Int).toNat (.agg #[.int .i64 y918.best.x0, .int .i64 y918.best.x1, .int .i64 y918.at_])).set (i892 : Int).toNat (.agg #[.int .i64 y927.best.x0, .int .i64 y927.best.x1, .int .i64 y927.at_])), rfl, rfl, rfl, hle992, h959, H⟩ tabOk rfl ⟨.inr rfl, .inr rfl, .inr rfl, .inr rfl, .inr rfl, .inr rfl, .inr rfl, .inr rfl, .inr rfl, trivial⟩ rfl rfl
                · skip
                  refine E.region (EL.run tabOk 4 rfl (EL.split (s := 11) rfl H (fun hb H => ?_) (fun hb H => ?_)))
                  · skip
                    exact EL.run tabOk 6 rfl (EL.nil (EX.fewer (hj907 _ _ _ ⟨true, l893, es894, rfl, rfl, (GLe.refl _), h895, H⟩) ⟨⟨_, rfl, rfl⟩, ⟨_, rfl, rfl⟩, ⟨_, rfl, rfl⟩, ⟨_, rfl, rfl⟩, trivial⟩ ⟨.inr rfl, .inr rfl, .inr rfl, .inr rfl, .inr rfl, .inr rfl, .inr rfl, .inr rfl, trivial⟩ rfl rfl))
                  · skip
                    refine EL.run tabOk 3 rfl (EL.inv [0, 1, 4, 11] rfl rfl rfl rfl rfl (mth_val tabOk mth_81_Less rfl rfl) Try.func82 tree_ways_Less_enters rfl Try.ntmps82 rfl rfl (fun L Γ ks s => ∃ (vals994 : List Value) (l997 : (List tree_way)) (b1000 : Bool) (es998 : List Value), L = [.box 25 [.v (.int .i64 p0.Segs), .v (.slice A1 p0.Plans.length c2), .v (.slice A4 p0.Hosts.length c5)], .row 88 3 l997.length es998, .box 83 [.row 1], .box 33 [.v (.int .i64 y842.ID), .v (.slice A849 y842.Ports.length c850)], .sav [.p 0 0, .ip 81 2 0, .v (.slice A1 p0.Plans.length c2), .v (.int .i64 (p0.Plans.length : Int)), .v (.int .i64 i833)] vals853, .gone, .gone, .sav [] vals878, .sav [.ip 81 2 0, .v (.int .i64 i892), .v (.int .i64 i901), .ff] vals994] ∧ ks = [.ip 81 2 0, .v (.int .i64 i892), .v (.int .i64 i901), .ff] ∧ s = .v (.bool b1000) ∧ GLe G898 Γ ∧ Els Γ l997 es998 ∧ tree_bests_j38 k i833 (loopN (fun _ _ => none) (tree_bests_s42 k p0) n841) i892 (loopN (fun _ _ => none) (tree_bests_s39 k i833 (loopN (fun _ _ => none) (tree_bests_s42 k p0) n841)) n900) i901 l997 b1000 = some r) ?_ ?_)
                    · skip
                      rintro _ G1002 _ _ ⟨vals994, l997, b1000, es998, rfl, rfl, rfl, hle1001, h999, H⟩
                      unfold tree_bests_j38 at H
                      have h3 := Rep.mono hle1001 h3; have h6 := Rep.mono hle1001 h6; have h851 := Rep.mono hle1001 h851
                      exact EL.run tabOk 2 rfl (EL.nil (EX.fewer (hj907 _ _ _ ⟨!b1000, l997, es998, rfl, rfl, hle1001, h999, H⟩) ⟨⟨_, rfl, rfl⟩, ⟨_, rfl, rfl⟩, ⟨_, rfl, rfl⟩, ⟨_, rfl, rfl⟩, trivial⟩ ⟨.inr rfl, .inr rfl, .inr rfl, .inr rfl, .inr rfl, .inr rfl, .inr rfl, .inr rfl, trivial⟩ rfl rfl))
                    · skip
                      intro K995 vals994 hB996
                      refine E.seq (E.region (EL.run tabOk 1 rfl (EL.nil (EX.seq (E.seq ?_)))))
                      obtain ⟨y1003, hy1004, H⟩ := bind_some H
                      obtain ⟨g1005, g1006, g1007, g1008⟩ := idx_some hy1004; obtain ⟨u1009, hj1010, hu1011⟩ := All2.get h895 g1008
                      obtain rfl : _ = _ := hu1011
                      obtain ⟨y1012, hy1013, H⟩ := bind_some H
                      obtain ⟨g1014, g1015, g1016, g1017⟩ := idx_some hy1013; obtain ⟨u1018, hj1019, hu1020⟩ := All2.get h895 g1017
                      obtain rfl : _ = _ := hu1020
                      obtain ⟨x1021, hx1022, H⟩ := bind_some H
                      refine E.fewer (env' := [(0, some (.row 1)), (1, some (.v (.int .i64 i892))), (2, some (.v (.int .i64 i901)))]) (L' := [.box 25 [.v (.int .i64 p0.Segs), .v (.slice A1 p0.Plans.length c2), .v (.slice A4 p0.Hosts.length c5)], .row 88 3 l893.length es894, .box 83 [.row 1], .box 33 [.v (.int .i64 y842.ID), .v (.slice A849 y842.Ports.length c850)], .sav [.p 0 0, .ip 81 2 0, .v (.slice A1 p0.Plans.length c2), .v (.int .i64 (p0.Plans.length : Int)), .v (.int .i64 i833)] vals853, .gone, .gone, .sav [] vals878, .sav [.ip 81 2 0, .v (.int .i64 i892), .v (.int .i64 i901), .ff] vals994]) (E.sub' ((E.draw mixed (fun (bs : List Bool) (env : Env) (L : List Ent) (Γ : Ghost) => match bs with | [b0', b1', b2', b3', b4', b5', b6', b7', b8', b9', b10', b11'] =>  env = [(7, bif b0' then some (.row 1) else none), (8, bif b1' then some (.v (.int .i64 i892)) else none), (9, bif b2' then some (.p 1 ((i892 : Int).toNat * 3)) else none), (10, bif b3' then some (.p 1 ((i892 : Int).toNat * 3)) else none), (11, bif b4' then some (.v (.agg #[.int .i64 y1003.best.x0, .int .i64 y1003.best.x1])) else none), (12, bif b5' then some (.row 1) else none), (13, bif b6' then some (.v (.int .i64 i901)) else none), (14, bif b7' then some (.p 1 ((i901 : Int).toNat * 3)) else none), (15, bif b8' then some (.p 1 ((i901 : Int).toNat * 3)) else none), (16, bif b9' then some (.v (.agg #[.int .i64 y1012.best.x0, .int .i64 y1012.best.x1])) else none), (17, bif b10' then some (.v (.bool x1021)) else none), (6, bif b11' then some (.v (.bool x1021)) else none), (0, some (.row 1)), (1, some (.v (.int .i64 i892))), (2, some (.v (.int .i64 i901)))] ∧ L = [.box 25 [.v (.int .i64 p0.Segs), .v (.slice A1 p0.Plans.length c2), .v (.slice A4 p0.Hosts.length c5)], .row 88 3 l893.length es894, .box 83 [.row 1], .box 33 [.v (.int .i64 y842.ID), .v (.slice A849 y842.Ports.length c850)], .sav [.p 0 0, .ip 81 2 0, .v (.slice A1 p0.Plans.length c2), .v (.int .i64 (p0.Plans.length : Int)), .v (.int .i64 i833)] vals853, .gone, .gone, .sav [] vals878, .sav [.ip 81 2 0, .v (.int .i64 i892), .v (.int .i64 i901), .ff] vals994] ∧ GLe G898 Γ | _ => False) ⟨rfl, rfl, GLe.refl _⟩ rfl ?_ ?_)) ⟨rfl, rfl, rfl, rfl, rfl, rfl, rfl, rfl, rfl, rfl, rfl, rfl, rfl, rfl, rfl, trivial⟩) ⟨⟨_, rfl, rfl⟩, ⟨_, rfl, rfl⟩, ⟨_, rfl, rfl⟩, trivial⟩ ⟨.inr rfl, .inr rfl, .inr rfl, .inr rfl, .inr rfl, .inr rfl, .inr rfl, .inr rfl, .inr rfl, trivial⟩ rfl rfl
                      · refine ⟨?_, ?_, ?_, ?_, ?_, ?_, ?_, ?_, ?_, ?_, ?_, ?_, trivial⟩
                        · intro b0' b1' b2' b3' b4' b5' b6' b7' b8' b9' b10' b11'
                          rintro ⟨⟩ ⟨⟩ ⟨⟩
                          rintro _ _ G1024 ⟨rfl, rfl, hle1023⟩ K hK
                          exact EL.step tabOk rfl (EL.nil (EX.sub' (hK _ _ _ ⟨rfl, rfl, hle1023⟩) ⟨rfl, rfl, rfl, rfl, rfl, rfl, rfl, rfl, rfl, rfl, rfl, rfl, rfl, rfl, rfl, trivial⟩))
                        · intro b0' b1' b2' b3' b4' b5' b6' b7' b8' b9' b10' b11'
                          rintro ⟨⟩ ⟨⟩ ⟨⟩
                          rintro _ _ G1026 ⟨rfl, rfl, hle1025⟩ K hK
                          exact EL.step tabOk rfl (EL.nil (EX.sub' (hK _ _ _ ⟨rfl, rfl, hle1025⟩) ⟨rfl, rfl, rfl, rfl, rfl, rfl, rfl, rfl, rfl, rfl, rfl, rfl, rfl, rfl, rfl, trivial⟩))
                        · intro b0' b1' b2' b3' b4' b5' b6' b7' b8' b9' b10' b11'
                          rintro ⟨⟩ ⟨⟩ ⟨⟩ ⟨⟩ ⟨⟩
                          rintro _ _ G1028 ⟨rfl, rfl, hle1027⟩ K hK
                          exact EL.indexRow g1005 g1007 tabOk rfl rfl rfl rfl rfl rfl rfl rfl (EL.nil (EX.sub' (hK _ _ _ ⟨rfl, rfl, hle1027⟩) ⟨rfl, rfl, rfl, rfl, rfl, rfl, rfl, rfl, rfl, rfl, rfl, rfl, rfl, rfl, rfl, trivial⟩))
                        · intro b0' b1' b2' b3' b4' b5' b6' b7' b8' b9' b10' b11'
                          rintro ⟨⟩ ⟨⟩ ⟨⟩ ⟨⟩
                          rintro _ _ G1030 ⟨rfl, rfl, hle1029⟩ K hK
                          exact EL.step tabOk rfl (EL.nil (EX.sub' (hK _ _ _ ⟨rfl, rfl, hle1029⟩) ⟨rfl, rfl, rfl, rfl, rfl, rfl, rfl, rfl, rfl, rfl, rfl, rfl, rfl, rfl, rfl, trivial⟩))
                        · intro b0' b1' b2' b3' b4' b5' b6' b7' b8' b9' b10' b11'
                          rintro ⟨⟩ ⟨⟩ ⟨⟩ ⟨⟩
                          rintro _ _ G1032 ⟨rfl, rfl, hle1031⟩ K hK
                          exact EL.loadRow (j := (i892 : Int).toNat) (off := 0) (sz := 3) hj1010 (part_sub (n := 2) rfl rfl) tabOk rfl rfl rfl rfl rfl rfl rfl rfl (EL.nil (EX.sub' (hK _ _ _ ⟨rfl, rfl, hle1031⟩) ⟨rfl, rfl, rfl, rfl, rfl, rfl, rfl, rfl, rfl, rfl, rfl, rfl, rfl, rfl, rfl, trivial⟩))
                        · intro b0' b1' b2' b3' b4' b5' b6' b7' b8' b9' b10' b11'
                          rintro ⟨⟩ ⟨⟩ ⟨⟩
                          rintro _ _ G1034 ⟨rfl, rfl, hle1033⟩ K hK
                          exact EL.step tabOk rfl (EL.nil (EX.sub' (hK _ _ _ ⟨rfl, rfl, hle1033⟩) ⟨rfl, rfl, rfl, rfl, rfl, rfl, rfl, rfl, rfl, rfl, rfl, rfl, rfl, rfl, rfl, trivial⟩))
                        · intro b0' b1' b2' b3' b4' b5' b6' b7' b8' b9' b10' b11'
                          rintro ⟨⟩ ⟨⟩ ⟨⟩
                          rintro _ _ G1036 ⟨rfl, rfl, hle1035⟩ K hK
                          exact EL.step tabOk rfl (EL.nil (EX.sub' (hK _ _ _ ⟨rfl, rfl, hle1035⟩) ⟨rfl, rfl, rfl, rfl, rfl, rfl, rfl, rfl, rfl, rfl, rfl, rfl, rfl, rfl, rfl, trivial⟩))
                        · intro b0' b1' b2' b3' b4' b5' b6' b7' b8' b9' b10' b11'
                          rintro ⟨⟩ ⟨⟩ ⟨⟩ ⟨⟩ ⟨⟩
                          rintro _ _ G1038 ⟨rfl, rfl, hle1037⟩ K hK
                          exact EL.indexRow g1014 g1016 tabOk rfl rfl rfl rfl rfl rfl rfl rfl (EL.nil (EX.sub' (hK _ _ _ ⟨rfl, rfl, hle1037⟩) ⟨rfl, rfl, rfl, rfl, rfl, rfl, rfl, rfl, rfl, rfl, rfl, rfl, rfl, rfl, rfl, trivial⟩))
                        · intro b0' b1' b2' b3' b4' b5' b6' b7' b8' b9' b10' b11'
                          rintro ⟨⟩ ⟨⟩ ⟨⟩ ⟨⟩
                          rintro _ _ G1040 ⟨rfl, rfl, hle1039⟩ K hK
                          exact EL.step tabOk rfl (EL.nil (EX.sub' (hK _ _ _ ⟨rfl, rfl, hle1039⟩) ⟨rfl, rfl, rfl, rfl, rfl, rfl, rfl, rfl, rfl, rfl, rfl, rfl, rfl, rfl, rfl, trivial⟩))
                        · intro b0' b1' b2' b3' b4' b5' b6' b7' b8' b9' b10' b11'
                          rintro ⟨⟩ ⟨⟩ ⟨⟩ ⟨⟩
                          rintro _ _ G1042 ⟨rfl, rfl, hle1041⟩ K hK
                          exact EL.loadRow (j := (i901 : Int).toNat) (off := 0) (sz := 3) hj1019 (part_sub (n := 2) rfl rfl) tabOk rfl rfl rfl rfl rfl rfl rfl rfl (EL.nil (EX.sub' (hK _ _ _ ⟨rfl, rfl, hle1041⟩) ⟨rfl, rfl, rfl, rfl, rfl, rfl, rfl, rfl, rfl, rfl, rfl, rfl, rfl, rfl, rfl, trivial⟩))
                        · intro b0' b1' b2' b3' b4' b5' b6' b7' b8' b9' b10' b11'
                          rintro ⟨⟩ ⟨⟩ ⟨⟩ ⟨⟩
                          rintro _ _ G1044 ⟨rfl, rfl, hle1043⟩ K hK
                          refine EL.call rfl rfl rfl rfl tree_best_less_enters (fun w hw => tree_best_less_ok hx1022 hw ) (fun v1045 G1048 hle1047 hv1046 => ?_)
                          obtain rfl : _ = _ := hv1046
                          exact EL.nil (EX.sub' (hK _ _ _ ⟨rfl, rfl, (GLe.trans hle1043 hle1047)⟩) ⟨rfl, rfl, rfl, rfl, rfl, rfl, rfl, rfl, rfl, rfl, rfl, rfl, rfl, rfl, rfl, trivial⟩)
                        · intro b0' b1' b2' b3' b4' b5' b6' b7' b8' b9' b10' b11'
                          rintro ⟨⟩ ⟨⟩ ⟨⟩ ⟨⟩ ⟨⟩ ⟨⟩ ⟨⟩ ⟨⟩ ⟨⟩ ⟨⟩ ⟨⟩ ⟨⟩ ⟨⟩ ⟨⟩
                          rintro _ _ G1050 ⟨rfl, rfl, hle1049⟩ K hK
                          exact EL.step tabOk rfl (EL.nil (EX.sub' (hK _ _ _ ⟨rfl, rfl, hle1049⟩) ⟨rfl, rfl, rfl, rfl, rfl, rfl, rfl, rfl, rfl, rfl, rfl, rfl, rfl, rfl, rfl, trivial⟩))
                      rintro _ _ G1052 ⟨rfl, rfl, hle1051⟩
                      have h3 := Rep.mono hle1051 h3
                      have h6 := Rep.mono hle1051 h6
                      have h895 := Els.mono h895 hle1051
                      have h851 := Rep.mono hle1051 h851
                      exact EX.seq (E.ret (EX.back hB996 ⟨vals994, l893, x1021, es894, rfl, rfl, rfl, hle1051, h895, H⟩ tabOk rfl rfl (fun _ => rfl) ⟨.inr rfl, .inr rfl, .inr rfl, .inr rfl, .inr rfl, .inr rfl, .inr rfl, .inr rfl, .inr rfl, trivial⟩ rfl rfl rfl))
          · skip
            intro K870 vals869 hB871
            exact E.seq (E.region (EL.run tabOk 1 rfl (EL.nil (EX.seq (E.seq (E.region (EL.run tabOk 3 rfl (EL.nil (EX.seq (E.ret (EX.back hB871 ⟨vals869, l864, ((l864.length : Nat) : Int), es865, rfl, rfl, rfl, (GLe.refl _), h866, H⟩ tabOk rfl rfl (fun _ => rfl) ⟨.inr rfl, .inr rfl, .inr rfl, .inr rfl, .inr rfl, .inl trivial, .inr rfl, trivial⟩ rfl rfl rfl)))))))))))
        · skip
          intro K862 vals861 hB863
          obtain ⟨l1053, hp1054, H⟩ := bind_some H
          have h1055 := push_els hp1054 h836 (show R G839 (⟨(⟨y842.ID, 0⟩ : arr2_i64), i833⟩ : tree_way) (.agg #[.int .i64 y842.ID, .int .i64 0, .int .i64 i833]) from rfl)
          refine E.fewer (env' := [(0, some (.p 2 0)), (1, some (.v (.iface 88 (.agg #[.int .i64 y842.ID, .int .i64 0, .int .i64 i833]))))]) (L' := [.box 25 [.v (.int .i64 p0.Segs), .v (.slice A1 p0.Plans.length c2), .v (.slice A4 p0.Hosts.length c5)], .row 88 3 l834.length es835, .box 83 [.row 1], .box 33 [.v (.int .i64 y842.ID), .v (.slice A849 y842.Ports.length c850)], .sav [.p 0 0, .ip 81 2 0, .v (.slice A1 p0.Plans.length c2), .v (.int .i64 (p0.Plans.length : Int)), .v (.int .i64 i833)] vals853, .sav [.ip 81 2 0] vals861]) (E.sub' (E.hole ((E.draw mixed (fun (bs : List Bool) (env : Env) (L : List Ent) (Γ : Ghost) => match bs with | [b0', b1', b2', b3', b4', b5', b6', b7', b8', b9'] => ∃ (vl1056 : Value), env = [(4, bif b0' then some (.p 2 0) else none), (5, bif b1' then some (.p 2 0) else none), (6, bif b2' then some (.p 2 0) else none), (7, bif b3' then (bif b7' then none else some (.row 1)) else none), (8, bif b4' then some (.v (.iface 88 (.agg #[.int .i64 y842.ID, .int .i64 0, .int .i64 i833]))) else none), (9, bif b5' then some (.v (.agg #[.int .i64 y842.ID, .int .i64 0, .int .i64 i833])) else none), (10, bif b6' then (bif b7' then none else some (.row 6)) else none), (11, bif b7' then some (.row 1) else none), (12, bif b8' then some (.p 2 0) else none), (0, some (.p 2 0)), (1, some (.v (.iface 88 (.agg #[.int .i64 y842.ID, .int .i64 0, .int .i64 i833]))))] ∧ L = [.box 25 [.v (.int .i64 p0.Segs), .v (.slice A1 p0.Plans.length c2), .v (.slice A4 p0.Hosts.length c5)], (bif b7' then .row 88 3 l1053.length (es835 ++ [.agg #[.int .i64 y842.ID, .int .i64 0, .int .i64 i833]]) else .row 88 3 l834.length es835), (bif b9' then .box 83 [.row 1] else bif b7' then .box 83 [.v (vl1056)] else .box 83 [.row 1]), .box 33 [.v (.int .i64 y842.ID), .v (.slice A849 y842.Ports.length c850)], .sav [.p 0 0, .ip 81 2 0, .v (.slice A1 p0.Plans.length c2), .v (.int .i64 (p0.Plans.length : Int)), .v (.int .i64 i833)] vals853, .sav [.ip 81 2 0] vals861, (bif b7' then .gone else bif b6' then .row 88 3 1 [(.agg #[.int .i64 y842.ID, .int .i64 0, .int .i64 i833])] else .gone)] ∧ GLe G839 Γ ∧ (b3' = true → b2' = true) ∧ (b7' = true → b3' = true) | _ => False) ⟨undef, rfl, rfl, GLe.refl _, (fun h => nomatch h), (fun h => nomatch h)⟩ rfl ?_ ?_))) ⟨rfl, rfl, rfl, rfl, rfl, rfl, rfl, rfl, rfl, rfl, rfl, trivial⟩) ⟨⟨_, rfl, rfl⟩, ⟨_, rfl, rfl⟩, trivial⟩ ⟨.inr rfl, .inr rfl, .inr rfl, .inr rfl, .inr rfl, .inr rfl, trivial⟩ rfl rfl
          · refine ⟨?_, ?_, ?_, ?_, ?_, ?_, ?_, ?_, ?_, ?_, trivial⟩
            · intro b0' b1' b2' b3' b4' b5' b6' b7' b8' b9'
              rintro ⟨⟩ ⟨⟩ ⟨⟩
              rintro _ _ G1058 ⟨vl1056, rfl, rfl, hle1057, w3_2, w7_3⟩ K hK
              exact EL.step tabOk rfl (EL.nil (EX.sub' (hK _ _ _ ⟨vl1056, rfl, rfl, hle1057, w3_2, w7_3⟩) ⟨rfl, rfl, rfl, rfl, rfl, rfl, rfl, rfl, rfl, rfl, rfl, trivial⟩))
            · intro b0' b1' b2' b3' b4' b5' b6' b7' b8' b9'
              rintro ⟨⟩ ⟨⟩ ⟨⟩ ⟨⟩
              rintro _ _ G1060 ⟨vl1056, rfl, rfl, hle1059, w3_2, w7_3⟩ K hK
              obtain rfl : b3' = false := ncl w3_2
              obtain rfl : b7' = false := ncl w7_3
              exact EL.step tabOk rfl (EL.nil (EX.sub' (hK _ _ _ ⟨vl1056, rfl, rfl, hle1059, w3_2, w7_3⟩) ⟨rfl, rfl, rfl, rfl, rfl, rfl, rfl, rfl, rfl, rfl, rfl, trivial⟩))
            · intro b0' b1' b2' b3' b4' b5' b6' b7' b8' b9'
              rintro ⟨⟩ ⟨⟩ ⟨⟩ ⟨⟩ ⟨⟩
              rintro _ _ G1062 ⟨vl1056, rfl, rfl, hle1061, w3_2, w7_3⟩ K hK
              obtain rfl : b7' = false := ncl w7_3
              exact EL.step tabOk rfl (EL.nil (EX.sub' (hK _ _ _ ⟨vl1056, rfl, rfl, hle1061, (fun _ => rfl), w7_3⟩) ⟨rfl, rfl, rfl, rfl, rfl, rfl, rfl, rfl, rfl, rfl, rfl, trivial⟩))
            · intro b0' b1' b2' b3' b4' b5' b6' b7' b8' b9'
              rintro ⟨⟩ ⟨⟩ ⟨⟩ ⟨⟩ ⟨⟩
              rintro _ _ G1064 ⟨vl1056, rfl, rfl, hle1063, w3_2, w7_3⟩ K hK
              exact EL.step tabOk rfl (EL.nil (EX.sub' (hK _ _ _ ⟨vl1056, rfl, rfl, hle1063, (fun _ => rfl), (fun _ => rfl)⟩) ⟨rfl, rfl, rfl, rfl, rfl, rfl, rfl, rfl, rfl, rfl, rfl, trivial⟩))
            · intro b0' b1' b2' b3' b4' b5' b6' b7' b8' b9'
              rintro ⟨⟩ ⟨⟩ ⟨⟩ ⟨⟩
              rintro _ _ G1066 ⟨vl1056, rfl, rfl, hle1065, w3_2, w7_3⟩ K hK
              exact EL.step tabOk rfl (EL.nil (EX.sub' (hK _ _ _ ⟨vl1056, rfl, rfl, hle1065, w3_2, w7_3⟩) ⟨rfl, rfl, rfl, rfl, rfl, rfl, rfl, rfl, rfl, rfl, rfl, trivial⟩))
            · intro b0' b1' b2' b3' b4' b5' b6' b7' b8' b9'
              rintro ⟨⟩ ⟨⟩ ⟨⟩ ⟨⟩ ⟨⟩
              rintro _ _ G1068 ⟨vl1056, rfl, rfl, hle1067, w3_2, w7_3⟩ K hK
              exact EL.assert tabOk rfl rfl rfl rfl rfl rfl (EL.nil (EX.sub' (hK _ _ _ ⟨vl1056, rfl, rfl, hle1067, w3_2, w7_3⟩) ⟨rfl, rfl, rfl, rfl, rfl, rfl, rfl, rfl, rfl, rfl, rfl, trivial⟩))
            · intro b0' b1' b2' b3' b4' b5' b6' b7' b8' b9'
              rintro ⟨⟩ ⟨⟩ ⟨⟩ ⟨⟩ ⟨⟩
              rintro _ _ G1070 ⟨vl1056, rfl, rfl, hle1069, w3_2, w7_3⟩ K hK
              refine EL.step tabOk rfl (EL.nil (EX.homeR 6 rfl (by repeat' (first | exact nrE_nil | refine nrE_cons ?_ ?_ | exact nrO_none | exact nrO_some rfl | refine nrO_if ?_ ?_)) (by repeat' (first | exact nrL_nil | refine nrL_cons ?_ ?_ | exact rfl | refine nrN_if ?_ ?_)) rfl ?_))
              exact EX.sub' (hK _ _ _ ⟨vl1056, rfl, rfl, hle1069, w3_2, w7_3⟩) ⟨rfl, rfl, rfl, rfl, rfl, rfl, rfl, rfl, rfl, rfl, rfl, trivial⟩
            · intro b0' b1' b2' b3' b4' b5' b6' b7' b8' b9'
              rintro ⟨⟩ ⟨⟩ ⟨⟩ ⟨⟩ ⟨⟩
              rintro _ _ G1072 ⟨vl1056, rfl, rfl, hle1071, w3_2, w7_3⟩ K hK
              have h836 := Els.mono h836 hle1071
              refine EL.pushX (Lk := fun vl1056 => [.box 25 [.v (.int .i64 p0.Segs), .v (.slice A1 p0.Plans.length c2), .v (.slice A4 p0.Hosts.length c5)], (bif false then .row 88 3 l1053.length (es835 ++ [.agg #[.int .i64 y842.ID, .int .i64 0, .int .i64 i833]]) else .row 88 3 l834.length es835), .box 83 [.v (vl1056)], .box 33 [.v (.int .i64 y842.ID), .v (.slice A849 y842.Ports.length c850)], .sav [.p 0 0, .ip 81 2 0, .v (.slice A1 p0.Plans.length c2), .v (.int .i64 (p0.Plans.length : Int)), .v (.int .i64 i833)] vals853, .sav [.ip 81 2 0] vals861, (bif false then .gone else bif true then .row 88 3 1 [(.agg #[.int .i64 y842.ID, .int .i64 0, .int .i64 i833])] else .gone)]) hp1054 h836 tabOk rfl rfl rfl rfl rfl rfl rfl rfl rfl rfl rfl rfl rfl rfl rfl [(4, bif b0' then some (.p 2 0) else none), (5, bif b1' then some (.p 2 0) else none), (6, bif b2' then some (.p 2 0) else none), (8, bif b4' then some (.v (.iface 88 (.agg #[.int .i64 y842.ID, .int .i64 0, .int .i64 i833]))) else none), (9, bif b5' then some (.v (.agg #[.int .i64 y842.ID, .int .i64 0, .int .i64 i833])) else none), (12, bif false then some (.p 2 0) else none), (0, some (.p 2 0)), (1, some (.v (.iface 88 (.agg #[.int .i64 y842.ID, .int .i64 0, .int .i64 i833]))))] (by repeat' (first | exact kpE_nil | refine kpE_cons ?_ ?_ | exact kpO_none | exact kpO_some rfl | refine kpO_if ?_ ?_)) ⟨rfl, rfl, rfl, rfl, rfl, rfl, rfl, rfl, trivial⟩ (by intro blk val; repeat' (first | exact killR_nil | refine killR_cons ?_ ?_ | exact rfl | refine killN_if ?_ ?_)) (fun vl1073 => ?_)
              exact EL.nil (EX.sub' (hK _ _ _ ⟨vl1073, rfl, rfl, hle1071, w3_2, (fun _ => rfl)⟩) ⟨rfl, rfl, rfl, rfl, rfl, rfl, rfl, rfl, rfl, rfl, rfl, trivial⟩)
            · intro b0' b1' b2' b3' b4' b5' b6' b7' b8' b9'
              rintro ⟨⟩ ⟨⟩ ⟨⟩ ⟨⟩ ⟨⟩ ⟨⟩ ⟨⟩ ⟨⟩ ⟨⟩ ⟨⟩ ⟨⟩
              rintro _ _ G1075 ⟨vl1056, rfl, rfl, hle1074, w3_2, w7_3⟩ K hK
              exact EL.step tabOk rfl (EL.nil (EX.sub' (hK _ _ _ ⟨vl1056, rfl, rfl, hle1074, w3_2, w7_3⟩) ⟨rfl, rfl, rfl, rfl, rfl, rfl, rfl, rfl, rfl, rfl, rfl, trivial⟩))
            · intro b0' b1' b2' b3' b4' b5' b6' b7' b8' b9'
              rintro ⟨⟩ ⟨⟩ ⟨⟩ ⟨⟩ ⟨⟩ ⟨⟩ ⟨⟩ ⟨⟩ ⟨⟩ ⟨⟩ ⟨⟩ ⟨⟩
              rintro _ _ G1077 ⟨vl1056, rfl, rfl, hle1076, w3_2, w7_3⟩ K hK
              exact EL.step tabOk rfl (EL.nil (EX.sub' (hK _ _ _ ⟨vl1056, rfl, rfl, hle1076, w3_2, w7_3⟩) ⟨rfl, rfl, rfl, rfl, rfl, rfl, rfl, rfl, rfl, rfl, rfl, trivial⟩))
          rintro _ _ G1079 ⟨vl1056, rfl, rfl, hle1078, w3_2, w7_3⟩
          have h3 := Rep.mono hle1078 h3
          have h6 := Rep.mono hle1078 h6
          have h1055 := Els.mono h1055 hle1078
          have h851 := Rep.mono hle1078 h851
          exact EX.backVN hB863 ⟨vals861, l1053, (es835 ++ [.agg #[.int .i64 y842.ID, .int .i64 0, .int .i64 i833]]), rfl, rfl, rfl, hle1078, h1055, H⟩ tabOk rfl ⟨.inr rfl, .inr rfl, .inr rfl, .inr rfl, .inr rfl, .inr rfl, trivial⟩ rfl rfl
    · skip
      exact E.exit (EX.out (EX.out (EX.hit (EX.fewer (hj12 _ _ _ ⟨l834, es835, rfl, rfl, hle837, h836, H⟩) ⟨⟨_, rfl, rfl⟩, ⟨_, rfl, rfl⟩, trivial⟩ ⟨.inr rfl, .inr rfl, .inr rfl, trivial⟩ rfl rfl))))
end Go.Proofs.Ytdiclbejalelfaa
