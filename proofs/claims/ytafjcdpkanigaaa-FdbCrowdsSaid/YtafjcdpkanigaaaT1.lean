/- PRINTED by a program of the claim's own: the types of the seat, and Go's functions as Lean functions, each with the proof that a call of it comes to that. -/
import Derived.Test.YtafjcdpkanigaaaT0
set_option linter.unusedVariables false
set_option linter.unusedSimpArgs false
set_option maxRecDepth 100000
namespace Go.Proofs.Ytafjcdpkanigaaa
open Go.RowKit
open Rep (R)
theorem ref08_Right_enters : Enters Try.prog 10 := ⟨_, Try.func10, rfl, rfl⟩
set_option maxHeartbeats 4000000 in
theorem ref08_Right_ok {k : Nat} {p0 : Table} {r : Bool} (H : ref08_Right k p0 = some r) {G : Ghost} {w : World} (hG : Holds G w) {v0 : Value} (h0 : R G p0 v0) : Ret Try.prog 10 [v0] w G (fun G v => R G r v) := by
  obtain ⟨v4, rfl, h3⟩ := h0
  obtain ⟨A1, c2, rfl, h3⟩ := Sl.open h3
  unfold ref08_Right at H
  refine start Try.func10 rfl Try.ntmps10 rfl hG (E.seq (E.region (EL.run tabOk 2 rfl (EL.nil (EX.seq (E.seq (E.seq (E.region (EL.run tabOk 7 rfl ?_)))))))))
  obtain ⟨x5, hx6, H⟩ := bind_some H
  refine EL.call rfl rfl rfl rfl ref08_Sizes_enters (fun w hw => ref08_Sizes_ok hx6 hw ) (fun v9 G8 hle7 hv10 => ?_)
  have h3 := Rep.mono hle7 h3
  obtain rfl : _ = _ := hv10
  refine EL.run tabOk 1 rfl (EL.nil (EX.seq (E.cond rfl H (fun hb H => ?_) (fun hb H => ?_))))
  · skip
    exact E.seq (E.region (EL.run tabOk 1 rfl (EL.nil (EX.seq (E.ret (EX.retT (EX.retE H tabOk rfl rfl)))))))
  · skip
    refine E.skip (EX.seq (E.seq (E.seq (E.region (EL.run tabOk 4 rfl (EL.nil (EX.seq (E.join (fun env L Γ =>  env = [] ∧ L = [.box 24 [.v (.slice A1 p0.Buckets.length c2), .v (.int .i64 p0.Slots), .v (.int .i64 p0.Age)]] ∧ GLe G8 Γ ∧ ref08_Right_j1 k = some r) ?_ (fun hj11 => ?_)))))))))
    · skip
      rintro _ _ G13 ⟨rfl, rfl, hle12, H⟩
      unfold ref08_Right_j1 at H
      have h3 := Rep.mono hle12 h3
      exact EX.seq (E.seq (E.region (EL.run tabOk 1 rfl (EL.nil (EX.seq (E.ret (EX.retE H tabOk rfl rfl)))))))
    · skip
      refine E.block (E.fewer (E.loop (fun n env L Γ => ∃ (i14 : Int), env = [(1, some (.p 0 0)), (17, some (.v (.slice A1 p0.Buckets.length c2))), (18, some (.v (.int .i64 (p0.Buckets.length : Int)))), (19, some (.v (.int .i64 i14)))] ∧ L = [.box 24 [.v (.slice A1 p0.Buckets.length c2), .v (.int .i64 p0.Slots), .v (.int .i64 p0.Age)]] ∧ GLe G8 Γ ∧ loopN (fun _ => none) (ref08_Right_s4 k p0) n i14 = some r) k ⟨0, rfl, rfl, GLe.refl _, H⟩ ?_) ⟨⟨_, rfl, rfl⟩, ⟨_, rfl, rfl⟩, ⟨_, rfl, rfl⟩, ⟨_, rfl, rfl⟩, trivial⟩ ⟨.inr rfl, trivial⟩ rfl rfl)
      rintro n19 _ _ G17 ⟨i14, rfl, rfl, hle15, H⟩ K hK18
      obtain _ | n19 := n19
      · exact none_ne H
      rw [loopN] at H; unfold ref08_Right_s4 at H
      have h3 := Rep.mono hle15 h3
      refine E.seq (E.region (EL.run tabOk 1 rfl (EL.nil (EX.seq (E.seq (E.cond rfl H (fun hb H => ?_) (fun hb H => ?_)))))))
      · skip
        refine E.skip (EX.seq (E.seq (E.block (E.seq (E.region (EL.run tabOk 1 rfl ?_))))))
        obtain ⟨y20, hy21, H⟩ := bind_some H
        refine EL.index hy21 h3 tabOk rfl rfl rfl rfl rfl rfl rfl rfl (fun b22 o23 u24 hu25 hc26 => ?_)
        obtain ⟨A27, c28, rfl, h29⟩ := Sl.open hu25
        refine EL.load hc26 tabOk rfl rfl rfl rfl rfl rfl (EL.run tabOk 2 rfl (EL.nil (EX.seq (E.seq (E.seq (E.region (EL.run tabOk 5 rfl (EL.nil (EX.seq (E.cond rfl H (fun hb H => ?_) (fun hb H => ?_)))))))))))
        · skip
          exact E.seq (E.region (EL.run tabOk 1 rfl (EL.nil (EX.seq (E.ret (EX.retT (EX.retB (EX.retT (EX.retT (EX.retB (EX.retT (EX.retE H tabOk rfl rfl))))))))))))
        · skip
          refine E.skip (EX.seq (E.seq (E.region (EL.run tabOk 3 rfl (EL.nil (EX.seq (E.join (fun env L Γ =>  env = [(1, some (.p 0 0)), (17, some (.v (.slice A1 p0.Buckets.length c2))), (18, some (.v (.int .i64 (p0.Buckets.length : Int)))), (19, some (.v (.int .i64 i14)))] ∧ L = [.box 24 [.v (.slice A1 p0.Buckets.length c2), .v (.int .i64 p0.Slots), .v (.int .i64 p0.Age)]] ∧ GLe G17 Γ ∧ ref08_Right_j2 k i14 (loopN (fun _ => none) (ref08_Right_s4 k p0) n19) = some r) ?_ (fun hj30 => ?_))))))))
          · skip
            rintro _ _ G32 ⟨rfl, rfl, hle31, H⟩
            unfold ref08_Right_j2 at H
            have h3 := Rep.mono hle31 h3
            exact EX.block (EX.seq (E.region (EL.run tabOk 2 rfl (EL.nil (EX.fewer (hK18 n19 _ _ _ (Nat.lt_succ_self _) ⟨wr (i14 + 1), rfl, rfl, (GLe.trans hle15 hle31), H⟩) ⟨⟨_, rfl, rfl⟩, ⟨_, rfl, rfl⟩, ⟨_, rfl, rfl⟩, ⟨_, rfl, rfl⟩, trivial⟩ ⟨.inr rfl, trivial⟩ rfl rfl)))))
          · skip
            refine E.block (E.fewer (E.loop (fun n env L Γ => ∃ (i33 : Int), env = [(1, some (.p 0 0)), (3, some (.v (.int .i64 i14))), (4, some (.v (.slice A27 y20.length c28))), (17, some (.v (.slice A1 p0.Buckets.length c2))), (18, some (.v (.int .i64 (p0.Buckets.length : Int)))), (19, some (.v (.int .i64 i14))), (29, some (.v (.slice A27 y20.length c28))), (30, some (.v (.int .i64 (y20.length : Int)))), (31, some (.v (.int .i64 i33)))] ∧ L = [.box 24 [.v (.slice A1 p0.Buckets.length c2), .v (.int .i64 p0.Slots), .v (.int .i64 p0.Age)]] ∧ GLe G17 Γ ∧ loopN (fun _ => none) (ref08_Right_s3 k p0 i14 (loopN (fun _ => none) (ref08_Right_s4 k p0) n19) y20) n i33 = some r) k ⟨0, rfl, rfl, GLe.refl _, H⟩ ?_) ⟨⟨_, rfl, rfl⟩, ⟨_, rfl, rfl⟩, ⟨_, rfl, rfl⟩, ⟨_, rfl, rfl⟩, ⟨_, rfl, rfl⟩, ⟨_, rfl, rfl⟩, ⟨_, rfl, rfl⟩, ⟨_, rfl, rfl⟩, ⟨_, rfl, rfl⟩, trivial⟩ ⟨.inr rfl, trivial⟩ rfl rfl)
            rintro n38 _ _ G36 ⟨i33, rfl, rfl, hle34, H⟩ K hK37
            obtain _ | n38 := n38
            · exact none_ne H
            rw [loopN] at H; unfold ref08_Right_s3 at H
            have h29 := Rep.mono hle34 h29; have h3 := Rep.mono hle34 h3
            refine E.seq (E.region (EL.run tabOk 1 rfl (EL.nil (EX.seq (E.seq (E.cond rfl H (fun hb H => ?_) (fun hb H => ?_)))))))
            · skip
              refine E.skip (EX.seq (E.seq (E.block (E.seq (E.region (EL.run tabOk 1 rfl ?_))))))
              obtain ⟨y39, hy40, H⟩ := bind_some H
              refine EL.index hy40 h29 tabOk rfl rfl rfl rfl rfl rfl rfl rfl (fun b41 o42 u43 hu44 hc45 => ?_)
              obtain rfl : _ = _ := hu44
              refine EL.load hc45 tabOk rfl rfl rfl rfl rfl rfl (EL.run tabOk 3 rfl (EL.nil (EX.seq (E.seq ?_))))
              obtain ⟨x46, hx47, H⟩ := bind_some H
              obtain ⟨hb48, H⟩ | ⟨hb48, H⟩ := bif_some H
              · skip
                refine E.fewer (env' := [(1, some (.p 0 0)), (3, some (.v (.int .i64 i14))), (4, some (.v (.slice A27 y20.length c28))), (5, some (.v (.int .i64 i33))), (6, some (.p 1 0)), (17, some (.v (.slice A1 p0.Buckets.length c2))), (18, some (.v (.int .i64 (p0.Buckets.length : Int)))), (19, some (.v (.int .i64 i14))), (29, some (.v (.slice A27 y20.length c28))), (30, some (.v (.int .i64 (y20.length : Int)))), (31, some (.v (.int .i64 i33)))]) (L' := [.box 24 [.v (.slice A1 p0.Buckets.length c2), .v (.int .i64 p0.Slots), .v (.int .i64 p0.Age)], .box 49 [.v (.int .i64 y39.Mac), .v (.int .i64 y39.Port), .v (.int .i64 y39.Seen), .v (.bool y39.Static)]]) (E.sub' (E.draw mixed (fun (bs : List Bool) (env : Env) (L : List Ent) (Γ : Ghost) => match bs with | [b0', b1', b2', b3', b4', b5', b6', b7', b8', b9', b10', b11', b12', b13', b14', b15'] =>  env = [(36, bif b0' then some (.v (.agg #[.int .i64 y39.Mac, .int .i64 y39.Port, .int .i64 y39.Seen, .bool y39.Static])) else none), (37, bif b1' then some (.v (.int .i64 i14)) else none), (38, bif b2' then some (.p 0 0) else none), (39, bif b3' then some (.v (.slice A1 p0.Buckets.length c2)) else none), (40, bif b4' then some (.v (.int .i64 (p0.Buckets.length : Int))) else none), (41, bif b5' then some (.v (.bool x46)) else none), (42, bif b6' then some (.tt) else none), (43, bif b7' then some (.tt) else none), (44, bif b8' then some (.v undef) else none), (45, bif b9' then some (.v undef) else none), (46, bif b10' then some (.v undef) else none), (47, bif b11' then some (.v undef) else none), (48, bif b12' then some (.v undef) else none), (49, bif b13' then some (.v undef) else none), (50, bif b14' then some (.v undef) else none), (51, bif b15' then some (.tt) else none), (1, some (.p 0 0)), (3, some (.v (.int .i64 i14))), (4, some (.v (.slice A27 y20.length c28))), (5, some (.v (.int .i64 i33))), (6, some (.p 1 0)), (17, some (.v (.slice A1 p0.Buckets.length c2))), (18, some (.v (.int .i64 (p0.Buckets.length : Int)))), (19, some (.v (.int .i64 i14))), (29, some (.v (.slice A27 y20.length c28))), (30, some (.v (.int .i64 (y20.length : Int)))), (31, some (.v (.int .i64 i33)))] ∧ L = [.box 24 [.v (.slice A1 p0.Buckets.length c2), .v (.int .i64 p0.Slots), .v (.int .i64 p0.Age)], .box 49 [.v (.int .i64 y39.Mac), .v (.int .i64 y39.Port), .v (.int .i64 y39.Seen), .v (.bool y39.Static)]] ∧ GLe G36 Γ | _ => False) ⟨rfl, rfl, GLe.refl _⟩ rfl ?_ ?_) ⟨rfl, rfl, rfl, rfl, rfl, rfl, rfl, rfl, rfl, rfl, rfl, rfl, rfl, rfl, rfl, rfl, rfl, rfl, rfl, rfl, rfl, rfl, rfl, rfl, rfl, rfl, rfl, trivial⟩) ⟨⟨_, rfl, rfl⟩, ⟨_, rfl, rfl⟩, ⟨_, rfl, rfl⟩, ⟨_, rfl, rfl⟩, ⟨_, rfl, rfl⟩, ⟨_, rfl, rfl⟩, ⟨_, rfl, rfl⟩, ⟨_, rfl, rfl⟩, ⟨_, rfl, rfl⟩, ⟨_, rfl, rfl⟩, ⟨_, rfl, rfl⟩, trivial⟩ ⟨.inr rfl, .inr rfl, trivial⟩ rfl rfl
                · refine ⟨?_, ?_, ?_, ?_, ?_, ?_, ?_, ?_, ?_, ?_, ?_, ?_, ?_, ?_, ?_, ?_, trivial⟩
                  · intro b0' b1' b2' b3' b4' b5' b6' b7' b8' b9' b10' b11' b12' b13' b14' b15'
                    rintro ⟨⟩ ⟨⟩
                    rintro _ _ G50 ⟨rfl, rfl, hle49⟩ K hK
                    exact EL.step tabOk rfl (EL.nil (EX.sub' (hK _ _ _ ⟨rfl, rfl, hle49⟩) ⟨rfl, rfl, rfl, rfl, rfl, rfl, rfl, rfl, rfl, rfl, rfl, rfl, rfl, rfl, rfl, rfl, rfl, rfl, rfl, rfl, rfl, rfl, rfl, rfl, rfl, rfl, rfl, trivial⟩))
                  · intro b0' b1' b2' b3' b4' b5' b6' b7' b8' b9' b10' b11' b12' b13' b14' b15'
                    rintro ⟨⟩ ⟨⟩
                    rintro _ _ G52 ⟨rfl, rfl, hle51⟩ K hK
                    exact EL.step tabOk rfl (EL.nil (EX.sub' (hK _ _ _ ⟨rfl, rfl, hle51⟩) ⟨rfl, rfl, rfl, rfl, rfl, rfl, rfl, rfl, rfl, rfl, rfl, rfl, rfl, rfl, rfl, rfl, rfl, rfl, rfl, rfl, rfl, rfl, rfl, rfl, rfl, rfl, rfl, trivial⟩))
                  · intro b0' b1' b2' b3' b4' b5' b6' b7' b8' b9' b10' b11' b12' b13' b14' b15'
                    rintro ⟨⟩ ⟨⟩
                    rintro _ _ G54 ⟨rfl, rfl, hle53⟩ K hK
                    have h3 := Rep.mono hle53 h3
                    exact EL.step tabOk rfl (EL.nil (EX.sub' (hK _ _ _ ⟨rfl, rfl, hle53⟩) ⟨rfl, rfl, rfl, rfl, rfl, rfl, rfl, rfl, rfl, rfl, rfl, rfl, rfl, rfl, rfl, rfl, rfl, rfl, rfl, rfl, rfl, rfl, rfl, rfl, rfl, rfl, rfl, trivial⟩))
                  · intro b0' b1' b2' b3' b4' b5' b6' b7' b8' b9' b10' b11' b12' b13' b14' b15'
                    rintro ⟨⟩ ⟨⟩ ⟨⟩
                    rintro _ _ G56 ⟨rfl, rfl, hle55⟩ K hK
                    have h3 := Rep.mono hle55 h3
                    exact EL.step tabOk rfl (EL.nil (EX.sub' (hK _ _ _ ⟨rfl, rfl, hle55⟩) ⟨rfl, rfl, rfl, rfl, rfl, rfl, rfl, rfl, rfl, rfl, rfl, rfl, rfl, rfl, rfl, rfl, rfl, rfl, rfl, rfl, rfl, rfl, rfl, rfl, rfl, rfl, rfl, trivial⟩))
                  · intro b0' b1' b2' b3' b4' b5' b6' b7' b8' b9' b10' b11' b12' b13' b14' b15'
                    rintro ⟨⟩ ⟨⟩ ⟨⟩
                    rintro _ _ G58 ⟨rfl, rfl, hle57⟩ K hK
                    have h3 := Rep.mono hle57 h3
                    exact EL.step tabOk rfl (EL.nil (EX.sub' (hK _ _ _ ⟨rfl, rfl, hle57⟩) ⟨rfl, rfl, rfl, rfl, rfl, rfl, rfl, rfl, rfl, rfl, rfl, rfl, rfl, rfl, rfl, rfl, rfl, rfl, rfl, rfl, rfl, rfl, rfl, rfl, rfl, rfl, rfl, trivial⟩))
                  · intro b0' b1' b2' b3' b4' b5' b6' b7' b8' b9' b10' b11' b12' b13' b14' b15'
                    rintro ⟨⟩ ⟨⟩ ⟨⟩ ⟨⟩ ⟨⟩ ⟨⟩
                    rintro _ _ G60 ⟨rfl, rfl, hle59⟩ K hK
                    refine EL.call rfl rfl rfl rfl ref08_entry_enters (fun w hw => ref08_entry_ok hx47 hw ) (fun v61 G64 hle63 hv62 => ?_)
                    obtain rfl : _ = _ := hv62
                    exact EL.nil (EX.sub' (hK _ _ _ ⟨rfl, rfl, (GLe.trans hle59 hle63)⟩) ⟨rfl, rfl, rfl, rfl, rfl, rfl, rfl, rfl, rfl, rfl, rfl, rfl, rfl, rfl, rfl, rfl, rfl, rfl, rfl, rfl, rfl, rfl, rfl, rfl, rfl, rfl, rfl, trivial⟩)
                  · intro b0' b1' b2' b3' b4' b5' b6' b7' b8' b9' b10' b11' b12' b13' b14' b15'
                    rintro ⟨⟩ ⟨⟩ ⟨⟩
                    rintro _ _ G66 ⟨rfl, rfl, hle65⟩ K hK
                    exact EL.step tabOk rfl (EL.known 42 rfl (c := true) hb48 (EL.nil (EX.sub' (hK _ _ _ ⟨rfl, rfl, hle65⟩) ⟨rfl, rfl, rfl, rfl, rfl, rfl, rfl, rfl, rfl, rfl, rfl, rfl, rfl, rfl, rfl, rfl, rfl, rfl, rfl, rfl, rfl, rfl, rfl, rfl, rfl, rfl, rfl, trivial⟩)))
                  · intro b0' b1' b2' b3' b4' b5' b6' b7' b8' b9' b10' b11' b12' b13' b14' b15'
                    rintro ⟨⟩ ⟨⟩ ⟨⟩ ⟨⟩ ⟨⟩ ⟨⟩ ⟨⟩ ⟨⟩ ⟨⟩ ⟨⟩ ⟨⟩
                    rintro _ _ G68 ⟨rfl, rfl, hle67⟩ K hK
                    exact EL.step tabOk rfl (EL.nil (EX.sub' (hK _ _ _ ⟨rfl, rfl, hle67⟩) ⟨rfl, rfl, rfl, rfl, rfl, rfl, rfl, rfl, rfl, rfl, rfl, rfl, rfl, rfl, rfl, rfl, rfl, rfl, rfl, rfl, rfl, rfl, rfl, rfl, rfl, rfl, rfl, trivial⟩))
                  · intro b0' b1' b2' b3' b4' b5' b6' b7' b8' b9' b10' b11' b12' b13' b14' b15'
                    rintro ⟨⟩ ⟨⟩ ⟨⟩
                    rintro _ _ G70 ⟨rfl, rfl, hle69⟩ K hK
                    have h29 := Rep.mono hle69 h29
                    exact EL.step tabOk rfl (EL.nil (EX.sub' (hK _ _ _ ⟨rfl, rfl, hle69⟩) ⟨rfl, rfl, rfl, rfl, rfl, rfl, rfl, rfl, rfl, rfl, rfl, rfl, rfl, rfl, rfl, rfl, rfl, rfl, rfl, rfl, rfl, rfl, rfl, rfl, rfl, rfl, rfl, trivial⟩))
                  · intro b0' b1' b2' b3' b4' b5' b6' b7' b8' b9' b10' b11' b12' b13' b14' b15'
                    rintro ⟨⟩ ⟨⟩ ⟨⟩
                    rintro _ _ G72 ⟨rfl, rfl, hle71⟩ K hK
                    exact EL.step tabOk rfl (EL.nil (EX.sub' (hK _ _ _ ⟨rfl, rfl, hle71⟩) ⟨rfl, rfl, rfl, rfl, rfl, rfl, rfl, rfl, rfl, rfl, rfl, rfl, rfl, rfl, rfl, rfl, rfl, rfl, rfl, rfl, rfl, rfl, rfl, rfl, rfl, rfl, rfl, trivial⟩))
                  · intro b0' b1' b2' b3' b4' b5' b6' b7' b8' b9' b10' b11' b12' b13' b14' b15'
                    rintro ⟨⟩ ⟨⟩ ⟨⟩ ⟨⟩ ⟨⟩
                    rintro _ _ G74 ⟨rfl, rfl, hle73⟩ K hK
                    exact EL.step tabOk rfl (EL.nil (EX.sub' (hK _ _ _ ⟨rfl, rfl, hle73⟩) ⟨rfl, rfl, rfl, rfl, rfl, rfl, rfl, rfl, rfl, rfl, rfl, rfl, rfl, rfl, rfl, rfl, rfl, rfl, rfl, rfl, rfl, rfl, rfl, rfl, rfl, rfl, rfl, trivial⟩))
                  · intro b0' b1' b2' b3' b4' b5' b6' b7' b8' b9' b10' b11' b12' b13' b14' b15'
                    rintro ⟨⟩ ⟨⟩ ⟨⟩
                    rintro _ _ G76 ⟨rfl, rfl, hle75⟩ K hK
                    exact EL.step tabOk rfl (EL.nil (EX.sub' (hK _ _ _ ⟨rfl, rfl, hle75⟩) ⟨rfl, rfl, rfl, rfl, rfl, rfl, rfl, rfl, rfl, rfl, rfl, rfl, rfl, rfl, rfl, rfl, rfl, rfl, rfl, rfl, rfl, rfl, rfl, rfl, rfl, rfl, rfl, trivial⟩))
                  · intro b0' b1' b2' b3' b4' b5' b6' b7' b8' b9' b10' b11' b12' b13' b14' b15'
                    rintro ⟨⟩ ⟨⟩ ⟨⟩ ⟨⟩
                    rintro _ _ G78 ⟨rfl, rfl, hle77⟩ K hK
                    exact EL.step tabOk rfl (EL.nil (EX.sub' (hK _ _ _ ⟨rfl, rfl, hle77⟩) ⟨rfl, rfl, rfl, rfl, rfl, rfl, rfl, rfl, rfl, rfl, rfl, rfl, rfl, rfl, rfl, rfl, rfl, rfl, rfl, rfl, rfl, rfl, rfl, rfl, rfl, rfl, rfl, trivial⟩))
                  · intro b0' b1' b2' b3' b4' b5' b6' b7' b8' b9' b10' b11' b12' b13' b14' b15'
                    rintro ⟨⟩ ⟨⟩ ⟨⟩ ⟨⟩ ⟨⟩ ⟨⟩
                    rintro _ _ G80 ⟨rfl, rfl, hle79⟩ K hK
                    exact EL.step tabOk rfl (EL.nil (EX.sub' (hK _ _ _ ⟨rfl, rfl, hle79⟩) ⟨rfl, rfl, rfl, rfl, rfl, rfl, rfl, rfl, rfl, rfl, rfl, rfl, rfl, rfl, rfl, rfl, rfl, rfl, rfl, rfl, rfl, rfl, rfl, rfl, rfl, rfl, rfl, trivial⟩))
                  · intro b0' b1' b2' b3' b4' b5' b6' b7' b8' b9' b10' b11' b12' b13' b14' b15'
                    rintro ⟨⟩ ⟨⟩ ⟨⟩ ⟨⟩
                    rintro _ _ G82 ⟨rfl, rfl, hle81⟩ K hK
                    exact EL.step tabOk rfl (EL.nil (EX.sub' (hK _ _ _ ⟨rfl, rfl, hle81⟩) ⟨rfl, rfl, rfl, rfl, rfl, rfl, rfl, rfl, rfl, rfl, rfl, rfl, rfl, rfl, rfl, rfl, rfl, rfl, rfl, rfl, rfl, rfl, rfl, rfl, rfl, rfl, rfl, trivial⟩))
                  · intro b0' b1' b2' b3' b4' b5' b6' b7' b8' b9' b10' b11' b12' b13' b14' b15'
                    rintro ⟨⟩ ⟨⟩ ⟨⟩
                    rintro _ _ G84 ⟨rfl, rfl, hle83⟩ K hK
                    exact EL.step tabOk rfl (EL.nil (EX.sub' (hK _ _ _ ⟨rfl, rfl, hle83⟩) ⟨rfl, rfl, rfl, rfl, rfl, rfl, rfl, rfl, rfl, rfl, rfl, rfl, rfl, rfl, rfl, rfl, rfl, rfl, rfl, rfl, rfl, rfl, rfl, rfl, rfl, rfl, rfl, trivial⟩))
                rintro _ _ G86 ⟨rfl, rfl, hle85⟩
                have h29 := Rep.mono hle85 h29
                have h3 := Rep.mono hle85 h3
                exact EX.seq (E.condT rfl (E.seq (E.region (EL.run tabOk 1 rfl (EL.nil (EX.seq (E.ret (EX.retB (EX.retT (EX.retT (EX.retB (EX.retB (EX.retT (EX.retT (EX.retB (EX.retT (EX.retE H tabOk rfl rfl)))))))))))))))))
              · skip
                obtain ⟨l87, hy88, H⟩ := bind_some H
                obtain ⟨x92, hx93, H⟩ := bind_some H
                refine E.fewer (env' := [(1, some (.p 0 0)), (3, some (.v (.int .i64 i14))), (4, some (.v (.slice A27 y20.length c28))), (5, some (.v (.int .i64 i33))), (6, some (.p 1 0)), (17, some (.v (.slice A1 p0.Buckets.length c2))), (18, some (.v (.int .i64 (p0.Buckets.length : Int)))), (19, some (.v (.int .i64 i14))), (29, some (.v (.slice A27 y20.length c28))), (30, some (.v (.int .i64 (y20.length : Int)))), (31, some (.v (.int .i64 i33)))]) (L' := [.box 24 [.v (.slice A1 p0.Buckets.length c2), .v (.int .i64 p0.Slots), .v (.int .i64 p0.Age)], .box 49 [.v (.int .i64 y39.Mac), .v (.int .i64 y39.Port), .v (.int .i64 y39.Seen), .v (.bool y39.Static)]]) (E.sub' (E.draw mixed (fun (bs : List Bool) (env : Env) (L : List Ent) (Γ : Ghost) => match bs with | [b0', b1', b2', b3', b4', b5', b6', b7', b8', b9', b10', b11', b12', b13', b14', b15'] => ∃ (A89 : Option Addr) (c90 : Nat), env = [(36, bif b0' then some (.v (.agg #[.int .i64 y39.Mac, .int .i64 y39.Port, .int .i64 y39.Seen, .bool y39.Static])) else none), (37, bif b1' then some (.v (.int .i64 i14)) else none), (38, bif b2' then some (.p 0 0) else none), (39, bif b3' then some (.v (.slice A1 p0.Buckets.length c2)) else none), (40, bif b4' then some (.v (.int .i64 (p0.Buckets.length : Int))) else none), (41, bif b5' then some (.v (.bool x46)) else none), (42, bif b6' then some (.ff) else none), (43, bif b7' then some (.ff) else none), (44, bif b8' then some (.v (.slice A27 y20.length c28)) else none), (45, bif b9' then some (.v (.int .i64 i33)) else none), (46, bif b10' then some (.v (.slice A89 l87.length c90)) else none), (47, bif b11' then some (.p 1 0) else none), (48, bif b12' then some (.v (.int .i64 y39.Mac)) else none), (49, bif b13' then some (.v (.int .i64 x92)) else none), (50, bif b14' then some (.v (.bool (decide (x92 ≥ 0)))) else none), (51, bif b15' then some (.v (.bool (decide (x92 ≥ 0)))) else none), (1, some (.p 0 0)), (3, some (.v (.int .i64 i14))), (4, some (.v (.slice A27 y20.length c28))), (5, some (.v (.int .i64 i33))), (6, some (.p 1 0)), (17, some (.v (.slice A1 p0.Buckets.length c2))), (18, some (.v (.int .i64 (p0.Buckets.length : Int)))), (19, some (.v (.int .i64 i14))), (29, some (.v (.slice A27 y20.length c28))), (30, some (.v (.int .i64 (y20.length : Int)))), (31, some (.v (.int .i64 i33)))] ∧ L = [.box 24 [.v (.slice A1 p0.Buckets.length c2), .v (.int .i64 p0.Slots), .v (.int .i64 p0.Age)], .box 49 [.v (.int .i64 y39.Mac), .v (.int .i64 y39.Port), .v (.int .i64 y39.Seen), .v (.bool y39.Static)]] ∧ GLe G36 Γ ∧ (b10' = true → R Γ l87 (.slice A89 l87.length c90)) | _ => False) ⟨none, 0, rfl, rfl, GLe.refl _, (fun h => nomatch h)⟩ rfl ?_ ?_) ⟨rfl, rfl, rfl, rfl, rfl, rfl, rfl, rfl, rfl, rfl, rfl, rfl, rfl, rfl, rfl, rfl, rfl, rfl, rfl, rfl, rfl, rfl, rfl, rfl, rfl, rfl, rfl, trivial⟩) ⟨⟨_, rfl, rfl⟩, ⟨_, rfl, rfl⟩, ⟨_, rfl, rfl⟩, ⟨_, rfl, rfl⟩, ⟨_, rfl, rfl⟩, ⟨_, rfl, rfl⟩, ⟨_, rfl, rfl⟩, ⟨_, rfl, rfl⟩, ⟨_, rfl, rfl⟩, ⟨_, rfl, rfl⟩, ⟨_, rfl, rfl⟩, trivial⟩ ⟨.inr rfl, .inr rfl, trivial⟩ rfl rfl
                · refine ⟨?_, ?_, ?_, ?_, ?_, ?_, ?_, ?_, ?_, ?_, ?_, ?_, ?_, ?_, ?_, ?_, trivial⟩
                  · intro b0' b1' b2' b3' b4' b5' b6' b7' b8' b9' b10' b11' b12' b13' b14' b15'
                    rintro ⟨⟩ ⟨⟩
                    rintro _ _ G95 ⟨A89, c90, rfl, rfl, hle94, fh91⟩ K hK
                    exact EL.step tabOk rfl (EL.nil (EX.sub' (hK _ _ _ ⟨A89, c90, rfl, rfl, hle94, fh91⟩) ⟨rfl, rfl, rfl, rfl, rfl, rfl, rfl, rfl, rfl, rfl, rfl, rfl, rfl, rfl, rfl, rfl, rfl, rfl, rfl, rfl, rfl, rfl, rfl, rfl, rfl, rfl, rfl, trivial⟩))
                  · intro b0' b1' b2' b3' b4' b5' b6' b7' b8' b9' b10' b11' b12' b13' b14' b15'
                    rintro ⟨⟩ ⟨⟩
                    rintro _ _ G97 ⟨A89, c90, rfl, rfl, hle96, fh91⟩ K hK
                    exact EL.step tabOk rfl (EL.nil (EX.sub' (hK _ _ _ ⟨A89, c90, rfl, rfl, hle96, fh91⟩) ⟨rfl, rfl, rfl, rfl, rfl, rfl, rfl, rfl, rfl, rfl, rfl, rfl, rfl, rfl, rfl, rfl, rfl, rfl, rfl, rfl, rfl, rfl, rfl, rfl, rfl, rfl, rfl, trivial⟩))
                  · intro b0' b1' b2' b3' b4' b5' b6' b7' b8' b9' b10' b11' b12' b13' b14' b15'
                    rintro ⟨⟩ ⟨⟩
                    rintro _ _ G99 ⟨A89, c90, rfl, rfl, hle98, fh91⟩ K hK
                    have h3 := Rep.mono hle98 h3
                    exact EL.step tabOk rfl (EL.nil (EX.sub' (hK _ _ _ ⟨A89, c90, rfl, rfl, hle98, fh91⟩) ⟨rfl, rfl, rfl, rfl, rfl, rfl, rfl, rfl, rfl, rfl, rfl, rfl, rfl, rfl, rfl, rfl, rfl, rfl, rfl, rfl, rfl, rfl, rfl, rfl, rfl, rfl, rfl, trivial⟩))
                  · intro b0' b1' b2' b3' b4' b5' b6' b7' b8' b9' b10' b11' b12' b13' b14' b15'
                    rintro ⟨⟩ ⟨⟩ ⟨⟩
                    rintro _ _ G101 ⟨A89, c90, rfl, rfl, hle100, fh91⟩ K hK
                    have h3 := Rep.mono hle100 h3
                    exact EL.step tabOk rfl (EL.nil (EX.sub' (hK _ _ _ ⟨A89, c90, rfl, rfl, hle100, fh91⟩) ⟨rfl, rfl, rfl, rfl, rfl, rfl, rfl, rfl, rfl, rfl, rfl, rfl, rfl, rfl, rfl, rfl, rfl, rfl, rfl, rfl, rfl, rfl, rfl, rfl, rfl, rfl, rfl, trivial⟩))
                  · intro b0' b1' b2' b3' b4' b5' b6' b7' b8' b9' b10' b11' b12' b13' b14' b15'
                    rintro ⟨⟩ ⟨⟩ ⟨⟩
                    rintro _ _ G103 ⟨A89, c90, rfl, rfl, hle102, fh91⟩ K hK
                    have h3 := Rep.mono hle102 h3
                    exact EL.step tabOk rfl (EL.nil (EX.sub' (hK _ _ _ ⟨A89, c90, rfl, rfl, hle102, fh91⟩) ⟨rfl, rfl, rfl, rfl, rfl, rfl, rfl, rfl, rfl, rfl, rfl, rfl, rfl, rfl, rfl, rfl, rfl, rfl, rfl, rfl, rfl, rfl, rfl, rfl, rfl, rfl, rfl, trivial⟩))
                  · intro b0' b1' b2' b3' b4' b5' b6' b7' b8' b9' b10' b11' b12' b13' b14' b15'
                    rintro ⟨⟩ ⟨⟩ ⟨⟩ ⟨⟩ ⟨⟩ ⟨⟩
                    rintro _ _ G105 ⟨A89, c90, rfl, rfl, hle104, fh91⟩ K hK
                    refine EL.call rfl rfl rfl rfl ref08_entry_enters (fun w hw => ref08_entry_ok hx47 hw ) (fun v106 G109 hle108 hv107 => ?_)
                    obtain rfl : _ = _ := hv107
                    exact EL.nil (EX.sub' (hK _ _ _ ⟨A89, c90, rfl, rfl, (GLe.trans hle104 hle108), (fun h => Rep.mono hle108 (fh91 h))⟩) ⟨rfl, rfl, rfl, rfl, rfl, rfl, rfl, rfl, rfl, rfl, rfl, rfl, rfl, rfl, rfl, rfl, rfl, rfl, rfl, rfl, rfl, rfl, rfl, rfl, rfl, rfl, rfl, trivial⟩)
                  · intro b0' b1' b2' b3' b4' b5' b6' b7' b8' b9' b10' b11' b12' b13' b14' b15'
                    rintro ⟨⟩ ⟨⟩ ⟨⟩
                    rintro _ _ G111 ⟨A89, c90, rfl, rfl, hle110, fh91⟩ K hK
                    exact EL.step tabOk rfl (EL.known 42 rfl (c := false) hb48 (EL.nil (EX.sub' (hK _ _ _ ⟨A89, c90, rfl, rfl, hle110, fh91⟩) ⟨rfl, rfl, rfl, rfl, rfl, rfl, rfl, rfl, rfl, rfl, rfl, rfl, rfl, rfl, rfl, rfl, rfl, rfl, rfl, rfl, rfl, rfl, rfl, rfl, rfl, rfl, rfl, trivial⟩)))
                  · intro b0' b1' b2' b3' b4' b5' b6' b7' b8' b9' b10' b11' b12' b13' b14' b15'
                    rintro ⟨⟩ ⟨⟩ ⟨⟩ ⟨⟩ ⟨⟩ ⟨⟩ ⟨⟩ ⟨⟩ ⟨⟩ ⟨⟩ ⟨⟩
                    rintro _ _ G113 ⟨A89, c90, rfl, rfl, hle112, fh91⟩ K hK
                    exact EL.step tabOk rfl (EL.nil (EX.sub' (hK _ _ _ ⟨A89, c90, rfl, rfl, hle112, fh91⟩) ⟨rfl, rfl, rfl, rfl, rfl, rfl, rfl, rfl, rfl, rfl, rfl, rfl, rfl, rfl, rfl, rfl, rfl, rfl, rfl, rfl, rfl, rfl, rfl, rfl, rfl, rfl, rfl, trivial⟩))
                  · intro b0' b1' b2' b3' b4' b5' b6' b7' b8' b9' b10' b11' b12' b13' b14' b15'
                    rintro ⟨⟩ ⟨⟩ ⟨⟩
                    rintro _ _ G115 ⟨A89, c90, rfl, rfl, hle114, fh91⟩ K hK
                    have h29 := Rep.mono hle114 h29
                    exact EL.step tabOk rfl (EL.nil (EX.sub' (hK _ _ _ ⟨A89, c90, rfl, rfl, hle114, fh91⟩) ⟨rfl, rfl, rfl, rfl, rfl, rfl, rfl, rfl, rfl, rfl, rfl, rfl, rfl, rfl, rfl, rfl, rfl, rfl, rfl, rfl, rfl, rfl, rfl, rfl, rfl, rfl, rfl, trivial⟩))
                  · intro b0' b1' b2' b3' b4' b5' b6' b7' b8' b9' b10' b11' b12' b13' b14' b15'
                    rintro ⟨⟩ ⟨⟩ ⟨⟩
                    rintro _ _ G117 ⟨A89, c90, rfl, rfl, hle116, fh91⟩ K hK
                    exact EL.step tabOk rfl (EL.nil (EX.sub' (hK _ _ _ ⟨A89, c90, rfl, rfl, hle116, fh91⟩) ⟨rfl, rfl, rfl, rfl, rfl, rfl, rfl, rfl, rfl, rfl, rfl, rfl, rfl, rfl, rfl, rfl, rfl, rfl, rfl, rfl, rfl, rfl, rfl, rfl, rfl, rfl, rfl, trivial⟩))
                  · intro b0' b1' b2' b3' b4' b5' b6' b7' b8' b9' b10' b11' b12' b13' b14' b15'
                    rintro ⟨⟩ ⟨⟩ ⟨⟩ ⟨⟩ ⟨⟩
                    rintro _ _ G119 ⟨A89, c90, rfl, rfl, hle118, fh91⟩ K hK
                    have h29 := Rep.mono hle118 h29
                    refine EL.slice hy88 h29 tabOk rfl rfl rfl rfl rfl rfl rfl rfl rfl (fun A120 c121 h122 => ?_)
                    exact EL.nil (EX.sub' (hK _ _ _ ⟨A120, c121, rfl, rfl, hle118, (fun _ => h122)⟩) ⟨rfl, rfl, rfl, rfl, rfl, rfl, rfl, rfl, rfl, rfl, rfl, rfl, rfl, rfl, rfl, rfl, rfl, rfl, rfl, rfl, rfl, rfl, rfl, rfl, rfl, rfl, rfl, trivial⟩)
                  · intro b0' b1' b2' b3' b4' b5' b6' b7' b8' b9' b10' b11' b12' b13' b14' b15'
                    rintro ⟨⟩ ⟨⟩ ⟨⟩
                    rintro _ _ G124 ⟨A89, c90, rfl, rfl, hle123, fh91⟩ K hK
                    exact EL.step tabOk rfl (EL.nil (EX.sub' (hK _ _ _ ⟨A89, c90, rfl, rfl, hle123, fh91⟩) ⟨rfl, rfl, rfl, rfl, rfl, rfl, rfl, rfl, rfl, rfl, rfl, rfl, rfl, rfl, rfl, rfl, rfl, rfl, rfl, rfl, rfl, rfl, rfl, rfl, rfl, rfl, rfl, trivial⟩))
                  · intro b0' b1' b2' b3' b4' b5' b6' b7' b8' b9' b10' b11' b12' b13' b14' b15'
                    rintro ⟨⟩ ⟨⟩ ⟨⟩ ⟨⟩
                    rintro _ _ G126 ⟨A89, c90, rfl, rfl, hle125, fh91⟩ K hK
                    exact EL.step tabOk rfl (EL.nil (EX.sub' (hK _ _ _ ⟨A89, c90, rfl, rfl, hle125, fh91⟩) ⟨rfl, rfl, rfl, rfl, rfl, rfl, rfl, rfl, rfl, rfl, rfl, rfl, rfl, rfl, rfl, rfl, rfl, rfl, rfl, rfl, rfl, rfl, rfl, rfl, rfl, rfl, rfl, trivial⟩))
                  · intro b0' b1' b2' b3' b4' b5' b6' b7' b8' b9' b10' b11' b12' b13' b14' b15'
                    rintro ⟨⟩ ⟨⟩ ⟨⟩ ⟨⟩ ⟨⟩ ⟨⟩
                    rintro _ _ G128 ⟨A89, c90, rfl, rfl, hle127, fh91⟩ K hK
                    have h91 := fh91 rfl
                    refine EL.call rfl rfl rfl rfl ref08_Place_enters (fun w hw => ref08_Place_ok hx93 hw h91) (fun v129 G132 hle131 hv130 => ?_)
                    obtain rfl : _ = _ := hv130
                    exact EL.nil (EX.sub' (hK _ _ _ ⟨A89, c90, rfl, rfl, (GLe.trans hle127 hle131), (fun h => Rep.mono hle131 (fh91 h))⟩) ⟨rfl, rfl, rfl, rfl, rfl, rfl, rfl, rfl, rfl, rfl, rfl, rfl, rfl, rfl, rfl, rfl, rfl, rfl, rfl, rfl, rfl, rfl, rfl, rfl, rfl, rfl, rfl, trivial⟩)
                  · intro b0' b1' b2' b3' b4' b5' b6' b7' b8' b9' b10' b11' b12' b13' b14' b15'
                    rintro ⟨⟩ ⟨⟩ ⟨⟩ ⟨⟩
                    rintro _ _ G134 ⟨A89, c90, rfl, rfl, hle133, fh91⟩ K hK
                    exact EL.step tabOk rfl (EL.nil (EX.sub' (hK _ _ _ ⟨A89, c90, rfl, rfl, hle133, fh91⟩) ⟨rfl, rfl, rfl, rfl, rfl, rfl, rfl, rfl, rfl, rfl, rfl, rfl, rfl, rfl, rfl, rfl, rfl, rfl, rfl, rfl, rfl, rfl, rfl, rfl, rfl, rfl, rfl, trivial⟩))
                  · intro b0' b1' b2' b3' b4' b5' b6' b7' b8' b9' b10' b11' b12' b13' b14' b15'
                    rintro ⟨⟩ ⟨⟩ ⟨⟩
                    rintro _ _ G136 ⟨A89, c90, rfl, rfl, hle135, fh91⟩ K hK
                    exact EL.step tabOk rfl (EL.nil (EX.sub' (hK _ _ _ ⟨A89, c90, rfl, rfl, hle135, fh91⟩) ⟨rfl, rfl, rfl, rfl, rfl, rfl, rfl, rfl, rfl, rfl, rfl, rfl, rfl, rfl, rfl, rfl, rfl, rfl, rfl, rfl, rfl, rfl, rfl, rfl, rfl, rfl, rfl, trivial⟩))
                rintro _ _ G138 ⟨A89, c90, rfl, rfl, hle137, fh91⟩
                have h29 := Rep.mono hle137 h29
                have h3 := Rep.mono hle137 h3
                refine EX.seq (E.cond rfl H (fun hb H => ?_) (fun hb H => ?_))
                · skip
                  exact E.seq (E.region (EL.run tabOk 1 rfl (EL.nil (EX.seq (E.ret (EX.retB (EX.retT (EX.retT (EX.retB (EX.retB (EX.retT (EX.retT (EX.retB (EX.retT (EX.retE H tabOk rfl rfl)))))))))))))))
                · skip
                  exact E.skip (EX.block (EX.seq (E.region (EL.run tabOk 2 rfl (EL.nil (EX.fewer (hK37 n38 _ _ _ (Nat.lt_succ_self _) ⟨wr (i33 + 1), rfl, rfl, (GLe.trans hle34 hle137), H⟩) ⟨⟨_, rfl, rfl⟩, ⟨_, rfl, rfl⟩, ⟨_, rfl, rfl⟩, ⟨_, rfl, rfl⟩, ⟨_, rfl, rfl⟩, ⟨_, rfl, rfl⟩, ⟨_, rfl, rfl⟩, ⟨_, rfl, rfl⟩, ⟨_, rfl, rfl⟩, trivial⟩ ⟨.inr rfl, trivial⟩ rfl rfl))))))
            · skip
              exact E.exit (EX.out (EX.out (EX.hit (EX.fewer (hj30 _ _ _ ⟨rfl, rfl, hle34, H⟩) ⟨⟨_, rfl, rfl⟩, ⟨_, rfl, rfl⟩, ⟨_, rfl, rfl⟩, ⟨_, rfl, rfl⟩, trivial⟩ ⟨.inr rfl, trivial⟩ rfl rfl))))
      · skip
        exact E.exit (EX.out (EX.out (EX.hit (EX.fewer (hj11 _ _ _ ⟨rfl, rfl, hle15, H⟩) trivial ⟨.inr rfl, trivial⟩ rfl rfl))))
theorem law08_alive_enters : Enters Try.prog 11 := ⟨_, Try.func11, rfl, rfl⟩
set_option maxHeartbeats 4000000 in
theorem law08_alive_ok {k : Nat}  {r : Bool} (H : law08_alive k = some r) {G : Ghost} {w : World} (hG : Holds G w)  : Ret Try.prog 11 [] w G (fun G v => R G r v) := by
  unfold law08_alive at H
  refine start Try.func11 rfl Try.ntmps11 rfl hG (E.seq (E.region (EL.run tabOk 1 rfl (EL.nil (EX.seq (E.seq (E.region ?_)))))))
  obtain ⟨x1, hx2, H⟩ := bind_some H
  refine EL.call rfl rfl rfl rfl fdb_New_enters (fun w hw => fdb_New_ok hx2 hw ) (fun v5 G4 hle3 hv6 => ?_)
  obtain ⟨u7, u8, rfl, h9, h10⟩ := hv6
  obtain ⟨v14, rfl, h13⟩ := h9
  obtain ⟨A11, c12, rfl, h13⟩ := Sl.open h13
  obtain rfl : _ = _ := h10
  refine EL.run tabOk 6 rfl (EL.nil (EX.seq (E.seq (E.seq (E.region (EL.run tabOk 3 rfl (EL.nil (EX.seq (E.join (fun env L Γ => ∃ (l15 : (List (List Entry))) (i19 : Int) (i20 : Int) (A16 : Option Addr) (c17 : Nat), env = [(1, some (.p 0 0)), (2, some (.v (.int .i64 x1.2)))] ∧ L = [.box 24 [.v (.slice A16 l15.length c17), .v (.int .i64 i19), .v (.int .i64 i20)], .row 3 1 4 [(.int .i64 2), (.int .i64 4), (.int .i64 2), (.int .i64 6)]] ∧ GLe G4 Γ ∧ R Γ l15 (.slice A16 l15.length c17) ∧ law08_alive_j1 k x1 l15 i19 i20 = some r) ?_ (fun hj21 => ?_))))))))))
  · skip
    rintro _ _ G23 ⟨l15, i19, i20, A16, c17, rfl, rfl, hle22, h18, H⟩
    unfold law08_alive_j1 at H
    refine EX.seq (E.seq (E.region (EL.run tabOk 1 rfl ?_)))
    obtain ⟨x24, hx25, H⟩ := bind_some H
    refine EL.call rfl rfl rfl rfl fdb_Find_enters (fun w hw => fdb_Find_ok hx25 hw ⟨_, rfl, h18⟩) (fun v28 G27 hle26 hv29 => ?_)
    have h18 := Rep.mono hle26 h18
    obtain ⟨u30, u31, rfl, h32, h33⟩ := hv29
    obtain rfl : _ = _ := h32
    obtain rfl : _ = _ := h33
    refine EL.run tabOk 5 rfl (EL.nil (EX.seq (E.seq (E.region (EL.run tabOk 1 rfl ?_)))))
    obtain ⟨x34, hx35, H⟩ := bind_some H
    refine EL.call rfl rfl rfl rfl fdb_Find_enters (fun w hw => fdb_Find_ok hx35 hw ⟨_, rfl, h18⟩) (fun v38 G37 hle36 hv39 => ?_)
    have h18 := Rep.mono hle36 h18
    obtain ⟨u40, u41, rfl, h42, h43⟩ := hv39
    obtain rfl : _ = _ := h42
    obtain rfl : _ = _ := h43
    exact EL.run tabOk 5 rfl (EL.nil (EX.seq (E.seq (E.region (EL.run tabOk 19 rfl (EL.nil (EX.seq (E.ret (EX.retE H tabOk rfl rfl)))))))))
  · skip
    refine E.block (E.fewer (E.loop (fun n env L Γ => ∃ (i44 : Int) (l45 : (List (List Entry))) (i49 : Int) (i50 : Int) (A46 : Option Addr) (c47 : Nat), env = [(1, some (.p 0 0)), (2, some (.v (.int .i64 x1.2))), (15, some (.row 1)), (16, some (.v (.int .i64 ((4 : Nat) : Int)))), (17, some (.v (.int .i64 i44)))] ∧ L = [.box 24 [.v (.slice A46 l45.length c47), .v (.int .i64 i49), .v (.int .i64 i50)], .row 3 1 4 [(.int .i64 2), (.int .i64 4), (.int .i64 2), (.int .i64 6)]] ∧ GLe G4 Γ ∧ R Γ l45 (.slice A46 l45.length c47) ∧ loopN (fun _ _ _ _ => none) (law08_alive_s2 k x1) n i44 l45 i49 i50 = some r) k ⟨0, x1.1.Buckets, x1.1.Slots, x1.1.Age, A11, c12, rfl, rfl, GLe.refl _, h13, H⟩ ?_) ⟨⟨_, rfl, rfl⟩, ⟨_, rfl, rfl⟩, ⟨_, rfl, rfl⟩, ⟨_, rfl, rfl⟩, ⟨_, rfl, rfl⟩, trivial⟩ ⟨.inr rfl, .inr rfl, trivial⟩ rfl rfl)
    rintro n55 _ _ G53 ⟨i44, l45, i49, i50, A46, c47, rfl, rfl, hle51, h48, H⟩ K hK54
    obtain _ | n55 := n55
    · exact none_ne H
    rw [loopN] at H; unfold law08_alive_s2 at H
    refine E.seq (E.region (EL.run tabOk 1 rfl (EL.nil (EX.seq (E.seq (E.cond rfl H (fun hb H => ?_) (fun hb H => ?_)))))))
    · skip
      refine E.skip (EX.seq (E.seq (E.block (E.seq (E.region ?_)))))
      obtain ⟨y56, hy57, H⟩ := bind_some H
      obtain ⟨g58, g59, g60, g61⟩ := idx_some hy57; obtain ⟨u62, hj63, hu64⟩ := All2.get (show Els G53 ([2, 4, 2, 6] : List Int) [(.int .i64 2), (.int .i64 4), (.int .i64 2), (.int .i64 6)] from (.cons rfl (.cons rfl (.cons rfl (.cons rfl All2.nil))))) g61
      refine EL.indexRow g58 g60 tabOk rfl rfl rfl rfl rfl rfl rfl rfl ?_
      obtain rfl : _ = _ := hu64
      refine EL.loadRow (j := (i44).toNat) (off := 0) hj63 (part_whole _) tabOk rfl rfl rfl rfl rfl rfl rfl rfl (EL.run tabOk 1 rfl (EL.nil (EX.seq (E.seq (E.region (EL.run tabOk 2 rfl ?_))))))
      obtain ⟨x65, hx66, H⟩ := bind_some H
      refine EL.call rfl rfl rfl rfl fdb_Learn_enters (fun w hw => fdb_Learn_ok hx66 hw ⟨_, rfl, h48⟩) (fun v69 G68 hle67 hv70 => ?_)
      have h48 := Rep.mono hle67 h48
      obtain ⟨u71, u72, rfl, h73, h74⟩ := hv70
      obtain ⟨v78, rfl, h77⟩ := h73
      obtain ⟨A75, c76, rfl, h77⟩ := Sl.open h77
      obtain rfl : _ = _ := h74
      refine EL.run tabOk 6 rfl (EL.nil (EX.seq (E.seq (E.seq (E.region (EL.run tabOk 2 rfl (EL.nil (EX.seq (E.cond rfl H (fun hb H => ?_) (fun hb H => ?_))))))))))
      · skip
        exact E.seq (E.region (EL.run tabOk 1 rfl (EL.nil (EX.seq (E.ret (EX.retT (EX.retB (EX.retT (EX.retT (EX.retB (EX.retT (EX.retE H tabOk rfl rfl))))))))))))
      · skip
        exact E.skip (EX.seq (E.region (EL.run tabOk 2 rfl (EL.nil (EX.block (EX.seq (E.region (EL.run tabOk 2 rfl (EL.nil (EX.fewer (hK54 n55 _ _ _ (Nat.lt_succ_self _) ⟨wr (i44 + 1), x65.1.Buckets, x65.1.Slots, x65.1.Age, A75, c76, rfl, rfl, (GLe.trans hle51 hle67), h77, H⟩) ⟨⟨_, rfl, rfl⟩, ⟨_, rfl, rfl⟩, ⟨_, rfl, rfl⟩, ⟨_, rfl, rfl⟩, ⟨_, rfl, rfl⟩, trivial⟩ ⟨.inr rfl, .inr rfl, trivial⟩ rfl rfl))))))))))
    · skip
      exact E.exit (EX.out (EX.out (EX.hit (EX.fewer (hj21 _ _ _ ⟨l45, i49, i50, A46, c47, rfl, rfl, hle51, h48, H⟩) ⟨⟨_, rfl, rfl⟩, ⟨_, rfl, rfl⟩, trivial⟩ ⟨.inr rfl, .inr rfl, trivial⟩ rfl rfl))))
theorem ref08_rows_enters : Enters Try.prog 31 := ⟨_, Try.func31, rfl, rfl⟩
set_option maxHeartbeats 4000000 in
theorem ref08_rows_ok {k : Nat} {p0 : (List Entry)} {p1 : (List Entry)} {r : Bool} (H : ref08_rows k p0 p1 = some r) {G : Ghost} {w : World} (hG : Holds G w) {v0 : Value} (h0 : R G p0 v0) {v1 : Value} (h1 : R G p1 v1) : Ret Try.prog 31 [v0, v1] w G (fun G v => R G r v) := by
  obtain ⟨A1, c2, rfl, h3⟩ := Sl.open h0
  obtain ⟨A4, c5, rfl, h6⟩ := Sl.open h1
  unfold ref08_rows at H
  refine start Try.func31 rfl Try.ntmps31 rfl hG (E.seq (E.region (EL.run tabOk 1 rfl (EL.nil (EX.seq (E.seq (E.seq (E.region (EL.run tabOk 5 rfl (EL.nil (EX.seq (E.cond rfl H (fun hb H => ?_) (fun hb H => ?_)))))))))))))
  · skip
    exact E.seq (E.region (EL.run tabOk 1 rfl (EL.nil (EX.seq (E.ret (EX.retT (EX.retE H tabOk rfl rfl)))))))
  · skip
    refine E.skip (EX.seq (E.seq (E.seq (E.region (EL.run tabOk 3 rfl (EL.nil (EX.seq (E.join (fun env L Γ =>  env = [] ∧ L = [] ∧ GLe G Γ ∧ ref08_rows_j1 k = some r) ?_ (fun hj7 => ?_)))))))))
    · skip
      rintro _ _ G9 ⟨rfl, rfl, hle8, H⟩
      unfold ref08_rows_j1 at H
      exact EX.seq (E.seq (E.region (EL.run tabOk 1 rfl (EL.nil (EX.seq (E.ret (EX.retE H tabOk rfl rfl)))))))
    · skip
      refine E.block (E.fewer (E.loop (fun n env L Γ => ∃ (i10 : Int), env = [(0, some (.v (.slice A1 p0.length c2))), (1, some (.v (.slice A4 p1.length c5))), (12, some (.v (.int .i64 (p0.length : Int)))), (13, some (.v (.int .i64 i10)))] ∧ L = [] ∧ GLe G Γ ∧ loopN (fun _ => none) (ref08_rows_s2 k p0 p1) n i10 = some r) k ⟨0, rfl, rfl, GLe.refl _, H⟩ ?_) ⟨⟨_, rfl, rfl⟩, ⟨_, rfl, rfl⟩, ⟨_, rfl, rfl⟩, ⟨_, rfl, rfl⟩, trivial⟩ trivial rfl rfl)
      rintro n15 _ _ G13 ⟨i10, rfl, rfl, hle11, H⟩ K hK14
      obtain _ | n15 := n15
      · exact none_ne H
      rw [loopN] at H; unfold ref08_rows_s2 at H
      have h3 := Rep.mono hle11 h3; have h6 := Rep.mono hle11 h6
      refine E.seq (E.region (EL.run tabOk 1 rfl (EL.nil (EX.seq (E.seq (E.cond rfl H (fun hb H => ?_) (fun hb H => ?_)))))))
      · skip
        refine E.skip (EX.seq (E.seq (E.block (E.seq (E.region (EL.run tabOk 2 rfl (EL.nil (EX.seq (E.seq ?_)))))))))
        obtain ⟨y16, hy17, H⟩ := bind_some H; obtain ⟨g25, g26, g27, g28⟩ := idx_some hy17; obtain ⟨b18, o19, u20, hA21, hn24, hu22, hc23⟩ := idx_at hy17 h3
        obtain rfl : _ = _ := hu22
        obtain ⟨y29, hy30, H⟩ := bind_some H; obtain ⟨g38, g39, g40, g41⟩ := idx_some hy30; obtain ⟨b31, o32, u33, hA34, hn37, hu35, hc36⟩ := idx_at hy30 h6
        obtain rfl : _ = _ := hu35
        refine E.fewer (env' := [(0, some (.v (.slice A1 p0.length c2))), (1, some (.v (.slice A4 p1.length c5))), (5, some (.v (.int .i64 i10))), (12, some (.v (.int .i64 (p0.length : Int)))), (13, some (.v (.int .i64 i10)))]) (L' := []) (E.sub' (E.draw mixed (fun (bs : List Bool) (env : Env) (L : List Ent) (Γ : Ghost) => match bs with | [b0', b1', b2', b3', b4', b5', b6', b7', b8'] =>  env = [(16, bif b0' then some (.v (.slice A1 p0.length c2)) else none), (17, bif b1' then some (.v (.int .i64 i10)) else none), (18, bif b2' then some (.v (.pointer (some ⟨b18, o19 + (i10).toNat * 4, none⟩))) else none), (19, bif b3' then some (.v (.agg #[.int .i64 y16.Mac, .int .i64 y16.Port, .int .i64 y16.Seen, .bool y16.Static])) else none), (20, bif b4' then some (.v (.slice A4 p1.length c5)) else none), (21, bif b5' then some (.v (.int .i64 i10)) else none), (22, bif b6' then some (.v (.pointer (some ⟨b31, o32 + (i10).toNat * 4, none⟩))) else none), (23, bif b7' then some (.v (.agg #[.int .i64 y29.Mac, .int .i64 y29.Port, .int .i64 y29.Seen, .bool y29.Static])) else none), (24, bif b8' then some (.v (.bool (xorB true ((y16.Mac == y29.Mac) && ((y16.Port == y29.Port) && ((y16.Seen == y29.Seen) && ((y16.Static == y29.Static) && true))))))) else none), (0, some (.v (.slice A1 p0.length c2))), (1, some (.v (.slice A4 p1.length c5))), (5, some (.v (.int .i64 i10))), (12, some (.v (.int .i64 (p0.length : Int)))), (13, some (.v (.int .i64 i10)))] ∧ L = [] ∧ GLe G13 Γ | _ => False) ⟨rfl, rfl, GLe.refl _⟩ rfl ?_ ?_) ⟨rfl, rfl, rfl, rfl, rfl, rfl, rfl, rfl, rfl, rfl, rfl, rfl, rfl, rfl, trivial⟩) ⟨⟨_, rfl, rfl⟩, ⟨_, rfl, rfl⟩, ⟨_, rfl, rfl⟩, ⟨_, rfl, rfl⟩, ⟨_, rfl, rfl⟩, trivial⟩ trivial rfl rfl
        · refine ⟨?_, ?_, ?_, ?_, ?_, ?_, ?_, ?_, ?_, trivial⟩
          · intro b0' b1' b2' b3' b4' b5' b6' b7' b8'
            rintro ⟨⟩ ⟨⟩
            rintro _ _ G43 ⟨rfl, rfl, hle42⟩ K hK
            have h3 := Rep.mono hle42 h3
            exact EL.step tabOk rfl (EL.nil (EX.sub' (hK _ _ _ ⟨rfl, rfl, hle42⟩) ⟨rfl, rfl, rfl, rfl, rfl, rfl, rfl, rfl, rfl, rfl, rfl, rfl, rfl, rfl, trivial⟩))
          · intro b0' b1' b2' b3' b4' b5' b6' b7' b8'
            rintro ⟨⟩ ⟨⟩
            rintro _ _ G45 ⟨rfl, rfl, hle44⟩ K hK
            exact EL.step tabOk rfl (EL.nil (EX.sub' (hK _ _ _ ⟨rfl, rfl, hle44⟩) ⟨rfl, rfl, rfl, rfl, rfl, rfl, rfl, rfl, rfl, rfl, rfl, rfl, rfl, rfl, trivial⟩))
          · intro b0' b1' b2' b3' b4' b5' b6' b7' b8'
            rintro ⟨⟩ ⟨⟩ ⟨⟩ ⟨⟩
            rintro _ _ G47 ⟨rfl, rfl, hle46⟩ K hK
            have h3 := Rep.mono hle46 h3
            exact EL.indexAt (b := b18) (o' := o19) (n := p0.length) (c := c2) g25 g27 tabOk rfl rfl rfl (by rw [← hA21]; rfl) rfl rfl rfl (EL.nil (EX.sub' (hK _ _ _ ⟨rfl, rfl, hle46⟩) ⟨rfl, rfl, rfl, rfl, rfl, rfl, rfl, rfl, rfl, rfl, rfl, rfl, rfl, rfl, trivial⟩))
          · intro b0' b1' b2' b3' b4' b5' b6' b7' b8'
            rintro ⟨⟩ ⟨⟩ ⟨⟩
            rintro _ _ G49 ⟨rfl, rfl, hle48⟩ K hK
            have hc23 := CellsAt.mono hle48 hc23
            exact EL.load hc23 tabOk rfl rfl rfl rfl rfl rfl (EL.nil (EX.sub' (hK _ _ _ ⟨rfl, rfl, hle48⟩) ⟨rfl, rfl, rfl, rfl, rfl, rfl, rfl, rfl, rfl, rfl, rfl, rfl, rfl, rfl, trivial⟩))
          · intro b0' b1' b2' b3' b4' b5' b6' b7' b8'
            rintro ⟨⟩ ⟨⟩
            rintro _ _ G51 ⟨rfl, rfl, hle50⟩ K hK
            have h6 := Rep.mono hle50 h6
            exact EL.step tabOk rfl (EL.nil (EX.sub' (hK _ _ _ ⟨rfl, rfl, hle50⟩) ⟨rfl, rfl, rfl, rfl, rfl, rfl, rfl, rfl, rfl, rfl, rfl, rfl, rfl, rfl, trivial⟩))
          · intro b0' b1' b2' b3' b4' b5' b6' b7' b8'
            rintro ⟨⟩ ⟨⟩
            rintro _ _ G53 ⟨rfl, rfl, hle52⟩ K hK
            exact EL.step tabOk rfl (EL.nil (EX.sub' (hK _ _ _ ⟨rfl, rfl, hle52⟩) ⟨rfl, rfl, rfl, rfl, rfl, rfl, rfl, rfl, rfl, rfl, rfl, rfl, rfl, rfl, trivial⟩))
          · intro b0' b1' b2' b3' b4' b5' b6' b7' b8'
            rintro ⟨⟩ ⟨⟩ ⟨⟩ ⟨⟩
            rintro _ _ G55 ⟨rfl, rfl, hle54⟩ K hK
            have h6 := Rep.mono hle54 h6
            exact EL.indexAt (b := b31) (o' := o32) (n := p1.length) (c := c5) g38 g40 tabOk rfl rfl rfl (by rw [← hA34]; rfl) rfl rfl rfl (EL.nil (EX.sub' (hK _ _ _ ⟨rfl, rfl, hle54⟩) ⟨rfl, rfl, rfl, rfl, rfl, rfl, rfl, rfl, rfl, rfl, rfl, rfl, rfl, rfl, trivial⟩))
          · intro b0' b1' b2' b3' b4' b5' b6' b7' b8'
            rintro ⟨⟩ ⟨⟩ ⟨⟩
            rintro _ _ G57 ⟨rfl, rfl, hle56⟩ K hK
            have hc36 := CellsAt.mono hle56 hc36
            exact EL.load hc36 tabOk rfl rfl rfl rfl rfl rfl (EL.nil (EX.sub' (hK _ _ _ ⟨rfl, rfl, hle56⟩) ⟨rfl, rfl, rfl, rfl, rfl, rfl, rfl, rfl, rfl, rfl, rfl, rfl, rfl, rfl, trivial⟩))
          · intro b0' b1' b2' b3' b4' b5' b6' b7' b8'
            rintro ⟨⟩ ⟨⟩ ⟨⟩
            rintro _ _ G59 ⟨rfl, rfl, hle58⟩ K hK
            exact EL.eqS (ts := sts) tabOk stsOk gt49 rfl rfl rfl rfl rfl rfl rfl rfl true rfl (EL.nil (EX.sub' (hK _ _ _ ⟨rfl, rfl, hle58⟩) ⟨rfl, rfl, rfl, rfl, rfl, rfl, rfl, rfl, rfl, rfl, rfl, rfl, rfl, rfl, trivial⟩))
        rintro _ _ G61 ⟨rfl, rfl, hle60⟩
        have h3 := Rep.mono hle60 h3
        have h6 := Rep.mono hle60 h6
        refine EX.seq (E.cond rfl H (fun hb H => ?_) (fun hb H => ?_))
        · skip
          exact E.seq (E.region (EL.run tabOk 1 rfl (EL.nil (EX.seq (E.ret (EX.retB (EX.retT (EX.retT (EX.retB (EX.retT (EX.retE H tabOk rfl rfl)))))))))))
        · skip
          exact E.skip (EX.block (EX.seq (E.region (EL.run tabOk 2 rfl (EL.nil (EX.fewer (hK14 n15 _ _ _ (Nat.lt_succ_self _) ⟨wr (i10 + 1), rfl, rfl, (GLe.trans hle11 hle60), H⟩) ⟨⟨_, rfl, rfl⟩, ⟨_, rfl, rfl⟩, ⟨_, rfl, rfl⟩, ⟨_, rfl, rfl⟩, trivial⟩ trivial rfl rfl))))))
      · skip
        exact E.exit (EX.out (EX.out (EX.hit (EX.fewer (hj7 _ _ _ ⟨rfl, rfl, hle11, H⟩) trivial trivial rfl rfl))))
theorem ref08_Same_enters : Enters Try.prog 13 := ⟨_, Try.func13, rfl, rfl⟩
set_option maxHeartbeats 4000000 in
theorem ref08_Same_ok {k : Nat} {p0 : Table} {p1 : Table} {r : Bool} (H : ref08_Same k p0 p1 = some r) {G : Ghost} {w : World} (hG : Holds G w) {v0 : Value} (h0 : R G p0 v0) {v1 : Value} (h1 : R G p1 v1) : Ret Try.prog 13 [v0, v1] w G (fun G v => R G r v) := by
  obtain ⟨v4, rfl, h3⟩ := h0
  obtain ⟨A1, c2, rfl, h3⟩ := Sl.open h3
  obtain ⟨v8, rfl, h7⟩ := h1
  obtain ⟨A5, c6, rfl, h7⟩ := Sl.open h7
  unfold ref08_Same at H
  refine start Try.func13 rfl Try.ntmps13 rfl hG (E.seq (E.region (EL.run tabOk 3 rfl (EL.nil (EX.seq (E.seq (E.seq (E.region (EL.run tabOk 6 rfl (EL.split (s := 11) rfl H (fun hb H => ?_) (fun hb H => ?_)))))))))))
  · skip
    exact EL.run tabOk 15 rfl (EL.nil (EX.seq (E.condT rfl (E.seq (E.region (EL.run tabOk 1 rfl (EL.nil (EX.seq (E.ret (EX.retT (EX.retE H tabOk rfl rfl)))))))))))
  · skip
    refine EL.run tabOk 7 rfl (EL.split (s := 18) rfl H (fun hb H => ?_) (fun hb H => ?_))
    · skip
      exact EL.run tabOk 8 rfl (EL.nil (EX.seq (E.condT rfl (E.seq (E.region (EL.run tabOk 1 rfl (EL.nil (EX.seq (E.ret (EX.retT (EX.retE H tabOk rfl rfl)))))))))))
    · skip
      refine EL.run tabOk 8 rfl (EL.nil (EX.seq (E.cond rfl H (fun hb H => ?_) (fun hb H => ?_))))
      · skip
        exact E.seq (E.region (EL.run tabOk 1 rfl (EL.nil (EX.seq (E.ret (EX.retT (EX.retE H tabOk rfl rfl)))))))
      · skip
        refine E.skip (EX.seq (E.seq (E.seq (E.region (EL.run tabOk 4 rfl (EL.nil (EX.seq (E.join (fun env L Γ =>  env = [] ∧ L = [.box 24 [.v (.slice A1 p0.Buckets.length c2), .v (.int .i64 p0.Slots), .v (.int .i64 p0.Age)], .box 24 [.v (.slice A5 p1.Buckets.length c6), .v (.int .i64 p1.Slots), .v (.int .i64 p1.Age)]] ∧ GLe G Γ ∧ ref08_Same_j1 k = some r) ?_ (fun hj9 => ?_)))))))))
        · skip
          rintro _ _ G11 ⟨rfl, rfl, hle10, H⟩
          unfold ref08_Same_j1 at H
          have h3 := Rep.mono hle10 h3; have h7 := Rep.mono hle10 h7
          exact EX.seq (E.seq (E.region (EL.run tabOk 1 rfl (EL.nil (EX.seq (E.ret (EX.retE H tabOk rfl rfl)))))))
        · skip
          refine E.block (E.fewer (E.loop (fun n env L Γ => ∃ (i12 : Int), env = [(2, some (.p 0 0)), (3, some (.p 1 0)), (29, some (.v (.int .i64 (p0.Buckets.length : Int)))), (30, some (.v (.int .i64 i12)))] ∧ L = [.box 24 [.v (.slice A1 p0.Buckets.length c2), .v (.int .i64 p0.Slots), .v (.int .i64 p0.Age)], .box 24 [.v (.slice A5 p1.Buckets.length c6), .v (.int .i64 p1.Slots), .v (.int .i64 p1.Age)]] ∧ GLe G Γ ∧ loopN (fun _ => none) (ref08_Same_s2 k p0 p1) n i12 = some r) k ⟨0, rfl, rfl, GLe.refl _, H⟩ ?_) ⟨⟨_, rfl, rfl⟩, ⟨_, rfl, rfl⟩, ⟨_, rfl, rfl⟩, ⟨_, rfl, rfl⟩, trivial⟩ ⟨.inr rfl, .inr rfl, trivial⟩ rfl rfl)
          rintro n17 _ _ G15 ⟨i12, rfl, rfl, hle13, H⟩ K hK16
          obtain _ | n17 := n17
          · exact none_ne H
          rw [loopN] at H; unfold ref08_Same_s2 at H
          have h3 := Rep.mono hle13 h3; have h7 := Rep.mono hle13 h7
          refine E.seq (E.region (EL.run tabOk 1 rfl (EL.nil (EX.seq (E.seq (E.cond rfl H (fun hb H => ?_) (fun hb H => ?_)))))))
          · skip
            refine E.skip (EX.seq (E.seq (E.block (E.seq (E.region (EL.run tabOk 2 rfl (EL.nil (EX.seq (E.seq ?_)))))))))
            obtain ⟨y18, hy19, H⟩ := bind_some H; obtain ⟨g27, g28, g29, g30⟩ := idx_some hy19; obtain ⟨b20, o21, u22, hA23, hn26, hu24, hc25⟩ := idx_at hy19 h3
            obtain ⟨A31, c32, rfl, h33⟩ := Sl.open hu24
            obtain ⟨y34, hy35, H⟩ := bind_some H; obtain ⟨g43, g44, g45, g46⟩ := idx_some hy35; obtain ⟨b36, o37, u38, hA39, hn42, hu40, hc41⟩ := idx_at hy35 h7
            obtain ⟨A47, c48, rfl, h49⟩ := Sl.open hu40
            obtain ⟨x50, hx51, H⟩ := bind_some H
            refine E.fewer (env' := [(2, some (.p 0 0)), (3, some (.p 1 0)), (5, some (.v (.int .i64 i12))), (29, some (.v (.int .i64 (p0.Buckets.length : Int)))), (30, some (.v (.int .i64 i12)))]) (L' := [.box 24 [.v (.slice A1 p0.Buckets.length c2), .v (.int .i64 p0.Slots), .v (.int .i64 p0.Age)], .box 24 [.v (.slice A5 p1.Buckets.length c6), .v (.int .i64 p1.Slots), .v (.int .i64 p1.Age)]]) (E.sub' (E.draw mixed (fun (bs : List Bool) (env : Env) (L : List Ent) (Γ : Ghost) => match bs with | [b0', b1', b2', b3', b4', b5', b6', b7', b8', b9', b10', b11'] =>  env = [(33, bif b0' then some (.p 0 0) else none), (34, bif b1' then some (.v (.slice A1 p0.Buckets.length c2)) else none), (35, bif b2' then some (.v (.int .i64 i12)) else none), (36, bif b3' then some (.v (.pointer (some ⟨b20, o21 + (i12).toNat * 1, none⟩))) else none), (37, bif b4' then some (.v (.slice A31 y18.length c32)) else none), (38, bif b5' then some (.p 1 0) else none), (39, bif b6' then some (.v (.slice A5 p1.Buckets.length c6)) else none), (40, bif b7' then some (.v (.int .i64 i12)) else none), (41, bif b8' then some (.v (.pointer (some ⟨b36, o37 + (i12).toNat * 1, none⟩))) else none), (42, bif b9' then some (.v (.slice A47 y34.length c48)) else none), (43, bif b10' then some (.v (.bool x50)) else none), (44, bif b11' then some (.v (.bool (!x50))) else none), (2, some (.p 0 0)), (3, some (.p 1 0)), (5, some (.v (.int .i64 i12))), (29, some (.v (.int .i64 (p0.Buckets.length : Int)))), (30, some (.v (.int .i64 i12)))] ∧ L = [.box 24 [.v (.slice A1 p0.Buckets.length c2), .v (.int .i64 p0.Slots), .v (.int .i64 p0.Age)], .box 24 [.v (.slice A5 p1.Buckets.length c6), .v (.int .i64 p1.Slots), .v (.int .i64 p1.Age)]] ∧ GLe G15 Γ | _ => False) ⟨rfl, rfl, GLe.refl _⟩ rfl ?_ ?_) ⟨rfl, rfl, rfl, rfl, rfl, rfl, rfl, rfl, rfl, rfl, rfl, rfl, rfl, rfl, rfl, rfl, rfl, trivial⟩) ⟨⟨_, rfl, rfl⟩, ⟨_, rfl, rfl⟩, ⟨_, rfl, rfl⟩, ⟨_, rfl, rfl⟩, ⟨_, rfl, rfl⟩, trivial⟩ ⟨.inr rfl, .inr rfl, trivial⟩ rfl rfl
            · refine ⟨?_, ?_, ?_, ?_, ?_, ?_, ?_, ?_, ?_, ?_, ?_, ?_, trivial⟩
              · intro b0' b1' b2' b3' b4' b5' b6' b7' b8' b9' b10' b11'
                rintro ⟨⟩ ⟨⟩
                rintro _ _ G53 ⟨rfl, rfl, hle52⟩ K hK
                have h3 := Rep.mono hle52 h3
                exact EL.step tabOk rfl (EL.nil (EX.sub' (hK _ _ _ ⟨rfl, rfl, hle52⟩) ⟨rfl, rfl, rfl, rfl, rfl, rfl, rfl, rfl, rfl, rfl, rfl, rfl, rfl, rfl, rfl, rfl, rfl, trivial⟩))
              · intro b0' b1' b2' b3' b4' b5' b6' b7' b8' b9' b10' b11'
                rintro ⟨⟩ ⟨⟩ ⟨⟩
                rintro _ _ G55 ⟨rfl, rfl, hle54⟩ K hK
                have h3 := Rep.mono hle54 h3
                exact EL.step tabOk rfl (EL.nil (EX.sub' (hK _ _ _ ⟨rfl, rfl, hle54⟩) ⟨rfl, rfl, rfl, rfl, rfl, rfl, rfl, rfl, rfl, rfl, rfl, rfl, rfl, rfl, rfl, rfl, rfl, trivial⟩))
              · intro b0' b1' b2' b3' b4' b5' b6' b7' b8' b9' b10' b11'
                rintro ⟨⟩ ⟨⟩
                rintro _ _ G57 ⟨rfl, rfl, hle56⟩ K hK
                exact EL.step tabOk rfl (EL.nil (EX.sub' (hK _ _ _ ⟨rfl, rfl, hle56⟩) ⟨rfl, rfl, rfl, rfl, rfl, rfl, rfl, rfl, rfl, rfl, rfl, rfl, rfl, rfl, rfl, rfl, rfl, trivial⟩))
              · intro b0' b1' b2' b3' b4' b5' b6' b7' b8' b9' b10' b11'
                rintro ⟨⟩ ⟨⟩ ⟨⟩ ⟨⟩
                rintro _ _ G59 ⟨rfl, rfl, hle58⟩ K hK
                have h3 := Rep.mono hle58 h3
                exact EL.indexAt (b := b20) (o' := o21) (n := p0.Buckets.length) (c := c2) g27 g29 tabOk rfl rfl rfl (by rw [← hA23]; rfl) rfl rfl rfl (EL.nil (EX.sub' (hK _ _ _ ⟨rfl, rfl, hle58⟩) ⟨rfl, rfl, rfl, rfl, rfl, rfl, rfl, rfl, rfl, rfl, rfl, rfl, rfl, rfl, rfl, rfl, rfl, trivial⟩))
              · intro b0' b1' b2' b3' b4' b5' b6' b7' b8' b9' b10' b11'
                rintro ⟨⟩ ⟨⟩ ⟨⟩
                rintro _ _ G61 ⟨rfl, rfl, hle60⟩ K hK
                have hc25 := CellsAt.mono hle60 hc25
                have h33 := Rep.mono hle60 h33
                exact EL.load hc25 tabOk rfl rfl rfl rfl rfl rfl (EL.nil (EX.sub' (hK _ _ _ ⟨rfl, rfl, hle60⟩) ⟨rfl, rfl, rfl, rfl, rfl, rfl, rfl, rfl, rfl, rfl, rfl, rfl, rfl, rfl, rfl, rfl, rfl, trivial⟩))
              · intro b0' b1' b2' b3' b4' b5' b6' b7' b8' b9' b10' b11'
                rintro ⟨⟩ ⟨⟩
                rintro _ _ G63 ⟨rfl, rfl, hle62⟩ K hK
                have h7 := Rep.mono hle62 h7
                exact EL.step tabOk rfl (EL.nil (EX.sub' (hK _ _ _ ⟨rfl, rfl, hle62⟩) ⟨rfl, rfl, rfl, rfl, rfl, rfl, rfl, rfl, rfl, rfl, rfl, rfl, rfl, rfl, rfl, rfl, rfl, trivial⟩))
              · intro b0' b1' b2' b3' b4' b5' b6' b7' b8' b9' b10' b11'
                rintro ⟨⟩ ⟨⟩ ⟨⟩
                rintro _ _ G65 ⟨rfl, rfl, hle64⟩ K hK
                have h7 := Rep.mono hle64 h7
                exact EL.step tabOk rfl (EL.nil (EX.sub' (hK _ _ _ ⟨rfl, rfl, hle64⟩) ⟨rfl, rfl, rfl, rfl, rfl, rfl, rfl, rfl, rfl, rfl, rfl, rfl, rfl, rfl, rfl, rfl, rfl, trivial⟩))
              · intro b0' b1' b2' b3' b4' b5' b6' b7' b8' b9' b10' b11'
                rintro ⟨⟩ ⟨⟩
                rintro _ _ G67 ⟨rfl, rfl, hle66⟩ K hK
                exact EL.step tabOk rfl (EL.nil (EX.sub' (hK _ _ _ ⟨rfl, rfl, hle66⟩) ⟨rfl, rfl, rfl, rfl, rfl, rfl, rfl, rfl, rfl, rfl, rfl, rfl, rfl, rfl, rfl, rfl, rfl, trivial⟩))
              · intro b0' b1' b2' b3' b4' b5' b6' b7' b8' b9' b10' b11'
                rintro ⟨⟩ ⟨⟩ ⟨⟩ ⟨⟩
                rintro _ _ G69 ⟨rfl, rfl, hle68⟩ K hK
                have h7 := Rep.mono hle68 h7
                exact EL.indexAt (b := b36) (o' := o37) (n := p1.Buckets.length) (c := c6) g43 g45 tabOk rfl rfl rfl (by rw [← hA39]; rfl) rfl rfl rfl (EL.nil (EX.sub' (hK _ _ _ ⟨rfl, rfl, hle68⟩) ⟨rfl, rfl, rfl, rfl, rfl, rfl, rfl, rfl, rfl, rfl, rfl, rfl, rfl, rfl, rfl, rfl, rfl, trivial⟩))
              · intro b0' b1' b2' b3' b4' b5' b6' b7' b8' b9' b10' b11'
                rintro ⟨⟩ ⟨⟩ ⟨⟩
                rintro _ _ G71 ⟨rfl, rfl, hle70⟩ K hK
                have hc41 := CellsAt.mono hle70 hc41
                have h49 := Rep.mono hle70 h49
                exact EL.load hc41 tabOk rfl rfl rfl rfl rfl rfl (EL.nil (EX.sub' (hK _ _ _ ⟨rfl, rfl, hle70⟩) ⟨rfl, rfl, rfl, rfl, rfl, rfl, rfl, rfl, rfl, rfl, rfl, rfl, rfl, rfl, rfl, rfl, rfl, trivial⟩))
              · intro b0' b1' b2' b3' b4' b5' b6' b7' b8' b9' b10' b11'
                rintro ⟨⟩ ⟨⟩ ⟨⟩ ⟨⟩
                rintro _ _ G73 ⟨rfl, rfl, hle72⟩ K hK
                have h49 := Rep.mono hle72 h49
                have h33 := Rep.mono hle72 h33
                refine EL.call rfl rfl rfl rfl ref08_rows_enters (fun w hw => ref08_rows_ok hx51 hw h33 h49) (fun v74 G77 hle76 hv75 => ?_)
                obtain rfl : _ = _ := hv75
                exact EL.nil (EX.sub' (hK _ _ _ ⟨rfl, rfl, (GLe.trans hle72 hle76)⟩) ⟨rfl, rfl, rfl, rfl, rfl, rfl, rfl, rfl, rfl, rfl, rfl, rfl, rfl, rfl, rfl, rfl, rfl, trivial⟩)
              · intro b0' b1' b2' b3' b4' b5' b6' b7' b8' b9' b10' b11'
                rintro ⟨⟩ ⟨⟩
                rintro _ _ G79 ⟨rfl, rfl, hle78⟩ K hK
                exact EL.step tabOk rfl (EL.nil (EX.sub' (hK _ _ _ ⟨rfl, rfl, hle78⟩) ⟨rfl, rfl, rfl, rfl, rfl, rfl, rfl, rfl, rfl, rfl, rfl, rfl, rfl, rfl, rfl, rfl, rfl, trivial⟩))
            rintro _ _ G81 ⟨rfl, rfl, hle80⟩
            have h3 := Rep.mono hle80 h3
            have h7 := Rep.mono hle80 h7
            refine EX.seq (E.cond rfl H (fun hb H => ?_) (fun hb H => ?_))
            · skip
              exact E.seq (E.region (EL.run tabOk 1 rfl (EL.nil (EX.seq (E.ret (EX.retB (EX.retT (EX.retT (EX.retB (EX.retT (EX.retE H tabOk rfl rfl)))))))))))
            · skip
              exact E.skip (EX.block (EX.seq (E.region (EL.run tabOk 2 rfl (EL.nil (EX.fewer (hK16 n17 _ _ _ (Nat.lt_succ_self _) ⟨wr (i12 + 1), rfl, rfl, (GLe.trans hle13 hle80), H⟩) ⟨⟨_, rfl, rfl⟩, ⟨_, rfl, rfl⟩, ⟨_, rfl, rfl⟩, ⟨_, rfl, rfl⟩, trivial⟩ ⟨.inr rfl, .inr rfl, trivial⟩ rfl rfl))))))
          · skip
            exact E.exit (EX.out (EX.out (EX.hit (EX.fewer (hj9 _ _ _ ⟨rfl, rfl, hle13, H⟩) trivial ⟨.inr rfl, .inr rfl, trivial⟩ rfl rfl))))
theorem ref08_bucket_enters : Enters Try.prog 34 := ⟨_, Try.func34, rfl, rfl⟩
set_option maxHeartbeats 4000000 in
theorem ref08_bucket_ok {k : Nat} {p0 : Table} {p1 : Int} {r : (List Entry)} (H : ref08_bucket k p0 p1 = some r) {G : Ghost} {w : World} (hG : Holds G w) {v0 : Value} (h0 : R G p0 v0) : Ret Try.prog 34 [v0, .int .i64 p1] w G (fun G v => R G r v) := by
  obtain ⟨v4, rfl, h3⟩ := h0
  obtain ⟨A1, c2, rfl, h3⟩ := Sl.open h3
  unfold ref08_bucket at H
  refine start Try.func34 rfl Try.ntmps34 rfl hG (E.seq (E.region (EL.run tabOk 2 rfl (EL.nil (EX.seq (E.seq ?_))))))
  obtain ⟨x5, hx6, H⟩ := bind_some H
  obtain ⟨y7, hy8, H⟩ := bind_some H; obtain ⟨g16, g17, g18, g19⟩ := idx_some hy8; obtain ⟨b9, o10, u11, hA12, hn15, hu13, hc14⟩ := idx_at hy8 h3
  obtain ⟨A20, c21, rfl, h22⟩ := Sl.open hu13
  refine E.fewer (env' := [(1, some (.v (.int .i64 p1))), (2, some (.p 0 0))]) (L' := [.box 24 [.v (.slice A1 p0.Buckets.length c2), .v (.int .i64 p0.Slots), .v (.int .i64 p0.Age)]]) (E.sub' (E.draw mixed (fun (bs : List Bool) (env : Env) (L : List Ent) (Γ : Ghost) => match bs with | [b0', b1', b2', b3', b4', b5', b6', b7', b8', b9'] =>  env = [(5, bif b0' then some (.p 0 0) else none), (6, bif b1' then some (.v (.slice A1 p0.Buckets.length c2)) else none), (7, bif b2' then some (.v (.int .i64 p1)) else none), (8, bif b3' then some (.p 0 0) else none), (9, bif b4' then some (.v (.slice A1 p0.Buckets.length c2)) else none), (10, bif b5' then some (.v (.int .i64 (p0.Buckets.length : Int))) else none), (11, bif b6' then some (.v (.int .i64 x5)) else none), (12, bif b7' then some (.v (.pointer (some ⟨b9, o10 + (x5).toNat * 1, none⟩))) else none), (13, bif b8' then some (.v (.slice A20 y7.length c21)) else none), (4, bif b9' then some (.v (.slice A20 y7.length c21)) else none), (1, some (.v (.int .i64 p1))), (2, some (.p 0 0))] ∧ L = [.box 24 [.v (.slice A1 p0.Buckets.length c2), .v (.int .i64 p0.Slots), .v (.int .i64 p0.Age)]] ∧ GLe G Γ | _ => False) ⟨rfl, rfl, GLe.refl _⟩ rfl ?_ ?_) ⟨rfl, rfl, rfl, rfl, rfl, rfl, rfl, rfl, rfl, rfl, rfl, rfl, trivial⟩) ⟨⟨_, rfl, rfl⟩, ⟨_, rfl, rfl⟩, trivial⟩ ⟨.inr rfl, trivial⟩ rfl rfl
  · refine ⟨?_, ?_, ?_, ?_, ?_, ?_, ?_, ?_, ?_, ?_, trivial⟩
    · intro b0' b1' b2' b3' b4' b5' b6' b7' b8' b9'
      rintro ⟨⟩ ⟨⟩ ⟨⟩
      rintro _ _ G24 ⟨rfl, rfl, hle23⟩ K hK
      have h3 := Rep.mono hle23 h3
      exact EL.step tabOk rfl (EL.nil (EX.sub' (hK _ _ _ ⟨rfl, rfl, hle23⟩) ⟨rfl, rfl, rfl, rfl, rfl, rfl, rfl, rfl, rfl, rfl, rfl, rfl, trivial⟩))
    · intro b0' b1' b2' b3' b4' b5' b6' b7' b8' b9'
      rintro ⟨⟩ ⟨⟩ ⟨⟩ ⟨⟩
      rintro _ _ G26 ⟨rfl, rfl, hle25⟩ K hK
      have h3 := Rep.mono hle25 h3
      exact EL.step tabOk rfl (EL.nil (EX.sub' (hK _ _ _ ⟨rfl, rfl, hle25⟩) ⟨rfl, rfl, rfl, rfl, rfl, rfl, rfl, rfl, rfl, rfl, rfl, rfl, trivial⟩))
    · intro b0' b1' b2' b3' b4' b5' b6' b7' b8' b9'
      rintro ⟨⟩ ⟨⟩ ⟨⟩
      rintro _ _ G28 ⟨rfl, rfl, hle27⟩ K hK
      exact EL.step tabOk rfl (EL.nil (EX.sub' (hK _ _ _ ⟨rfl, rfl, hle27⟩) ⟨rfl, rfl, rfl, rfl, rfl, rfl, rfl, rfl, rfl, rfl, rfl, rfl, trivial⟩))
    · intro b0' b1' b2' b3' b4' b5' b6' b7' b8' b9'
      rintro ⟨⟩ ⟨⟩ ⟨⟩
      rintro _ _ G30 ⟨rfl, rfl, hle29⟩ K hK
      have h3 := Rep.mono hle29 h3
      exact EL.step tabOk rfl (EL.nil (EX.sub' (hK _ _ _ ⟨rfl, rfl, hle29⟩) ⟨rfl, rfl, rfl, rfl, rfl, rfl, rfl, rfl, rfl, rfl, rfl, rfl, trivial⟩))
    · intro b0' b1' b2' b3' b4' b5' b6' b7' b8' b9'
      rintro ⟨⟩ ⟨⟩ ⟨⟩ ⟨⟩
      rintro _ _ G32 ⟨rfl, rfl, hle31⟩ K hK
      have h3 := Rep.mono hle31 h3
      exact EL.step tabOk rfl (EL.nil (EX.sub' (hK _ _ _ ⟨rfl, rfl, hle31⟩) ⟨rfl, rfl, rfl, rfl, rfl, rfl, rfl, rfl, rfl, rfl, rfl, rfl, trivial⟩))
    · intro b0' b1' b2' b3' b4' b5' b6' b7' b8' b9'
      rintro ⟨⟩ ⟨⟩ ⟨⟩ ⟨⟩
      rintro _ _ G34 ⟨rfl, rfl, hle33⟩ K hK
      have h3 := Rep.mono hle33 h3
      exact EL.step tabOk rfl (EL.nil (EX.sub' (hK _ _ _ ⟨rfl, rfl, hle33⟩) ⟨rfl, rfl, rfl, rfl, rfl, rfl, rfl, rfl, rfl, rfl, rfl, rfl, trivial⟩))
    · intro b0' b1' b2' b3' b4' b5' b6' b7' b8' b9'
      rintro ⟨⟩ ⟨⟩ ⟨⟩ ⟨⟩ ⟨⟩
      rintro _ _ G36 ⟨rfl, rfl, hle35⟩ K hK
      refine EL.call rfl rfl rfl rfl ref07_Bucket_enters (fun w hw => ref07_Bucket_ok hx6 hw ) (fun v37 G40 hle39 hv38 => ?_)
      obtain rfl : _ = _ := hv38
      exact EL.nil (EX.sub' (hK _ _ _ ⟨rfl, rfl, (GLe.trans hle35 hle39)⟩) ⟨rfl, rfl, rfl, rfl, rfl, rfl, rfl, rfl, rfl, rfl, rfl, rfl, trivial⟩)
    · intro b0' b1' b2' b3' b4' b5' b6' b7' b8' b9'
      rintro ⟨⟩ ⟨⟩ ⟨⟩ ⟨⟩ ⟨⟩
      rintro _ _ G42 ⟨rfl, rfl, hle41⟩ K hK
      have h3 := Rep.mono hle41 h3
      exact EL.indexAt (b := b9) (o' := o10) (n := p0.Buckets.length) (c := c2) g16 g18 tabOk rfl rfl rfl (by rw [← hA12]; rfl) rfl rfl rfl (EL.nil (EX.sub' (hK _ _ _ ⟨rfl, rfl, hle41⟩) ⟨rfl, rfl, rfl, rfl, rfl, rfl, rfl, rfl, rfl, rfl, rfl, rfl, trivial⟩))
    · intro b0' b1' b2' b3' b4' b5' b6' b7' b8' b9'
      rintro ⟨⟩ ⟨⟩ ⟨⟩
      rintro _ _ G44 ⟨rfl, rfl, hle43⟩ K hK
      have hc14 := CellsAt.mono hle43 hc14
      have h22 := Rep.mono hle43 h22
      exact EL.load hc14 tabOk rfl rfl rfl rfl rfl rfl (EL.nil (EX.sub' (hK _ _ _ ⟨rfl, rfl, hle43⟩) ⟨rfl, rfl, rfl, rfl, rfl, rfl, rfl, rfl, rfl, rfl, rfl, rfl, trivial⟩))
    · intro b0' b1' b2' b3' b4' b5' b6' b7' b8' b9'
      rintro ⟨⟩ ⟨⟩ ⟨⟩ ⟨⟩ ⟨⟩ ⟨⟩ ⟨⟩ ⟨⟩ ⟨⟩ ⟨⟩ ⟨⟩ ⟨⟩
      rintro _ _ G46 ⟨rfl, rfl, hle45⟩ K hK
      have h22 := Rep.mono hle45 h22
      exact EL.step tabOk rfl (EL.nil (EX.sub' (hK _ _ _ ⟨rfl, rfl, hle45⟩) ⟨rfl, rfl, rfl, rfl, rfl, rfl, rfl, rfl, rfl, rfl, rfl, rfl, trivial⟩))
  rintro _ _ G48 ⟨rfl, rfl, hle47⟩
  have h22 := Rep.mono hle47 h22
  have h3 := Rep.mono hle47 h3
  exact EX.seq (E.ret (EX.retE H tabOk rfl h22))
theorem ref08_Old_enters : Enters Try.prog 35 := ⟨_, Try.func35, rfl, rfl⟩
set_option maxHeartbeats 4000000 in
theorem ref08_Old_ok {k : Nat} {p0 : Table} {p1 : Entry} {p2 : Int} {r : Bool} (H : ref08_Old k p0 p1 p2 = some r) {G : Ghost} {w : World} (hG : Holds G w) {v0 : Value} (h0 : R G p0 v0) : Ret Try.prog 35 [v0, .agg #[.int .i64 p1.Mac, .int .i64 p1.Port, .int .i64 p1.Seen, .bool p1.Static], .int .i64 p2] w G (fun G v => R G r v) := by
  obtain ⟨v4, rfl, h3⟩ := h0
  obtain ⟨A1, c2, rfl, h3⟩ := Sl.open h3
  unfold ref08_Old at H
  refine start Try.func35 rfl Try.ntmps35 rfl hG (E.seq (E.region (EL.run tabOk 3 rfl (EL.nil (EX.seq (E.seq (E.region (EL.run tabOk 4 rfl (EL.split (s := 10) rfl H (fun hb H => ?_) (fun hb H => ?_))))))))))
  · skip
    exact EL.run tabOk 9 rfl (EL.nil (EX.seq (E.ret (EX.retE H tabOk rfl rfl))))
  · skip
    exact EL.run tabOk 9 rfl (EL.nil (EX.seq (E.ret (EX.retE H tabOk rfl rfl))))
theorem ref08_Find_enters : Enters Try.prog 17 := ⟨_, Try.func17, rfl, rfl⟩
set_option maxHeartbeats 4000000 in
theorem ref08_Find_ok {k : Nat} {p0 : Table} {p1 : Int} {p2 : Int} {r : Int} (H : ref08_Find k p0 p1 p2 = some r) {G : Ghost} {w : World} (hG : Holds G w) {v0 : Value} (h0 : R G p0 v0) : Ret Try.prog 17 [v0, .int .i64 p1, .int .i64 p2] w G (fun G v => R G r v) := by
  obtain ⟨v4, rfl, h3⟩ := h0
  obtain ⟨A1, c2, rfl, h3⟩ := Sl.open h3
  unfold ref08_Find at H
  refine start Try.func17 rfl Try.ntmps17 rfl hG (E.seq (E.region (EL.run tabOk 2 rfl (EL.nil (EX.seq (E.seq (E.region (EL.run tabOk 2 rfl ?_))))))))
  obtain ⟨x5, hx6, H⟩ := bind_some H
  refine EL.call rfl rfl rfl rfl ref08_bucket_enters (fun w hw => ref08_bucket_ok hx6 hw ⟨_, rfl, h3⟩) (fun v9 G8 hle7 hv10 => ?_)
  have h3 := Rep.mono hle7 h3
  obtain ⟨A11, c12, rfl, h13⟩ := Sl.open hv10
  refine EL.run tabOk 1 rfl (EL.nil (EX.seq (E.seq (E.region (EL.run tabOk 2 rfl ?_)))))
  obtain ⟨x14, hx15, H⟩ := bind_some H
  refine EL.call rfl rfl rfl rfl ref08_Place_enters (fun w hw => ref08_Place_ok hx15 hw h13) (fun v18 G17 hle16 hv19 => ?_)
  have h13 := Rep.mono hle16 h13; have h3 := Rep.mono hle16 h3
  obtain rfl : _ = _ := hv19
  refine EL.run tabOk 1 rfl (EL.nil (EX.seq (E.seq (E.seq ?_))))
  obtain ⟨hb20, H⟩ | ⟨hb20, H⟩ := bif_some H
  · skip
    refine E.fewer (env' := [(2, some (.v (.int .i64 p2))), (3, some (.p 0 0)), (7, some (.v (.slice A11 x5.length c12))), (8, some (.v (.int .i64 x14)))]) (L' := [.box 24 [.v (.slice A1 p0.Buckets.length c2), .v (.int .i64 p0.Slots), .v (.int .i64 p0.Age)]]) (E.sub' (E.draw mixed (fun (bs : List Bool) (env : Env) (L : List Ent) (Γ : Ghost) => match bs with | [b0', b1', b2', b3', b4', b5', b6', b7', b8', b9', b10'] =>  env = [(15, bif b0' then some (.v (.int .i64 x14)) else none), (16, bif b1' then some (.tt) else none), (17, bif b2' then some (.tt) else none), (18, bif b3' then some (.v undef) else none), (19, bif b4' then some (.v undef) else none), (20, bif b5' then some (.v undef) else none), (21, bif b6' then some (.v undef) else none), (22, bif b7' then some (.v undef) else none), (23, bif b8' then some (.v undef) else none), (24, bif b9' then some (.v undef) else none), (25, bif b10' then some (.tt) else none), (2, some (.v (.int .i64 p2))), (3, some (.p 0 0)), (7, some (.v (.slice A11 x5.length c12))), (8, some (.v (.int .i64 x14)))] ∧ L = [.box 24 [.v (.slice A1 p0.Buckets.length c2), .v (.int .i64 p0.Slots), .v (.int .i64 p0.Age)]] ∧ GLe G17 Γ | _ => False) ⟨rfl, rfl, GLe.refl _⟩ rfl ?_ ?_) ⟨rfl, rfl, rfl, rfl, rfl, rfl, rfl, rfl, rfl, rfl, rfl, rfl, rfl, rfl, rfl, trivial⟩) ⟨⟨_, rfl, rfl⟩, ⟨_, rfl, rfl⟩, ⟨_, rfl, rfl⟩, ⟨_, rfl, rfl⟩, trivial⟩ ⟨.inr rfl, trivial⟩ rfl rfl
    · refine ⟨?_, ?_, ?_, ?_, ?_, ?_, ?_, ?_, ?_, ?_, ?_, trivial⟩
      · intro b0' b1' b2' b3' b4' b5' b6' b7' b8' b9' b10'
        rintro ⟨⟩ ⟨⟩
        rintro _ _ G22 ⟨rfl, rfl, hle21⟩ K hK
        exact EL.step tabOk rfl (EL.nil (EX.sub' (hK _ _ _ ⟨rfl, rfl, hle21⟩) ⟨rfl, rfl, rfl, rfl, rfl, rfl, rfl, rfl, rfl, rfl, rfl, rfl, rfl, rfl, rfl, trivial⟩))
      · intro b0' b1' b2' b3' b4' b5' b6' b7' b8' b9' b10'
        rintro ⟨⟩ ⟨⟩ ⟨⟩
        rintro _ _ G24 ⟨rfl, rfl, hle23⟩ K hK
        exact EL.step tabOk rfl (EL.known 16 rfl (c := true) hb20 (EL.nil (EX.sub' (hK _ _ _ ⟨rfl, rfl, hle23⟩) ⟨rfl, rfl, rfl, rfl, rfl, rfl, rfl, rfl, rfl, rfl, rfl, rfl, rfl, rfl, rfl, trivial⟩)))
      · intro b0' b1' b2' b3' b4' b5' b6' b7' b8' b9' b10'
        rintro ⟨⟩ ⟨⟩ ⟨⟩ ⟨⟩ ⟨⟩ ⟨⟩ ⟨⟩ ⟨⟩ ⟨⟩ ⟨⟩
        rintro _ _ G26 ⟨rfl, rfl, hle25⟩ K hK
        exact EL.step tabOk rfl (EL.nil (EX.sub' (hK _ _ _ ⟨rfl, rfl, hle25⟩) ⟨rfl, rfl, rfl, rfl, rfl, rfl, rfl, rfl, rfl, rfl, rfl, rfl, rfl, rfl, rfl, trivial⟩))
      · intro b0' b1' b2' b3' b4' b5' b6' b7' b8' b9' b10'
        rintro ⟨⟩ ⟨⟩ ⟨⟩
        rintro _ _ G28 ⟨rfl, rfl, hle27⟩ K hK
        have h3 := Rep.mono hle27 h3
        exact EL.step tabOk rfl (EL.nil (EX.sub' (hK _ _ _ ⟨rfl, rfl, hle27⟩) ⟨rfl, rfl, rfl, rfl, rfl, rfl, rfl, rfl, rfl, rfl, rfl, rfl, rfl, rfl, rfl, trivial⟩))
      · intro b0' b1' b2' b3' b4' b5' b6' b7' b8' b9' b10'
        rintro ⟨⟩ ⟨⟩ ⟨⟩
        rintro _ _ G30 ⟨rfl, rfl, hle29⟩ K hK
        have h13 := Rep.mono hle29 h13
        exact EL.step tabOk rfl (EL.nil (EX.sub' (hK _ _ _ ⟨rfl, rfl, hle29⟩) ⟨rfl, rfl, rfl, rfl, rfl, rfl, rfl, rfl, rfl, rfl, rfl, rfl, rfl, rfl, rfl, trivial⟩))
      · intro b0' b1' b2' b3' b4' b5' b6' b7' b8' b9' b10'
        rintro ⟨⟩ ⟨⟩ ⟨⟩
        rintro _ _ G32 ⟨rfl, rfl, hle31⟩ K hK
        exact EL.step tabOk rfl (EL.nil (EX.sub' (hK _ _ _ ⟨rfl, rfl, hle31⟩) ⟨rfl, rfl, rfl, rfl, rfl, rfl, rfl, rfl, rfl, rfl, rfl, rfl, rfl, rfl, rfl, trivial⟩))
      · intro b0' b1' b2' b3' b4' b5' b6' b7' b8' b9' b10'
        rintro ⟨⟩ ⟨⟩ ⟨⟩ ⟨⟩ ⟨⟩
        rintro _ _ G34 ⟨rfl, rfl, hle33⟩ K hK
        exact EL.step tabOk rfl (EL.nil (EX.sub' (hK _ _ _ ⟨rfl, rfl, hle33⟩) ⟨rfl, rfl, rfl, rfl, rfl, rfl, rfl, rfl, rfl, rfl, rfl, rfl, rfl, rfl, rfl, trivial⟩))
      · intro b0' b1' b2' b3' b4' b5' b6' b7' b8' b9' b10'
        rintro ⟨⟩ ⟨⟩ ⟨⟩ ⟨⟩
        rintro _ _ G36 ⟨rfl, rfl, hle35⟩ K hK
        exact EL.step tabOk rfl (EL.nil (EX.sub' (hK _ _ _ ⟨rfl, rfl, hle35⟩) ⟨rfl, rfl, rfl, rfl, rfl, rfl, rfl, rfl, rfl, rfl, rfl, rfl, rfl, rfl, rfl, trivial⟩))
      · intro b0' b1' b2' b3' b4' b5' b6' b7' b8' b9' b10'
        rintro ⟨⟩ ⟨⟩ ⟨⟩
        rintro _ _ G38 ⟨rfl, rfl, hle37⟩ K hK
        exact EL.step tabOk rfl (EL.nil (EX.sub' (hK _ _ _ ⟨rfl, rfl, hle37⟩) ⟨rfl, rfl, rfl, rfl, rfl, rfl, rfl, rfl, rfl, rfl, rfl, rfl, rfl, rfl, rfl, trivial⟩))
      · intro b0' b1' b2' b3' b4' b5' b6' b7' b8' b9' b10'
        rintro ⟨⟩ ⟨⟩ ⟨⟩ ⟨⟩ ⟨⟩ ⟨⟩ ⟨⟩
        rintro _ _ G40 ⟨rfl, rfl, hle39⟩ K hK
        exact EL.step tabOk rfl (EL.nil (EX.sub' (hK _ _ _ ⟨rfl, rfl, hle39⟩) ⟨rfl, rfl, rfl, rfl, rfl, rfl, rfl, rfl, rfl, rfl, rfl, rfl, rfl, rfl, rfl, trivial⟩))
      · intro b0' b1' b2' b3' b4' b5' b6' b7' b8' b9' b10'
        rintro ⟨⟩ ⟨⟩ ⟨⟩
        rintro _ _ G42 ⟨rfl, rfl, hle41⟩ K hK
        exact EL.step tabOk rfl (EL.nil (EX.sub' (hK _ _ _ ⟨rfl, rfl, hle41⟩) ⟨rfl, rfl, rfl, rfl, rfl, rfl, rfl, rfl, rfl, rfl, rfl, rfl, rfl, rfl, rfl, trivial⟩))
    rintro _ _ G44 ⟨rfl, rfl, hle43⟩
    have h13 := Rep.mono hle43 h13
    have h3 := Rep.mono hle43 h3
    exact EX.seq (E.condT rfl (E.seq (E.region (EL.run tabOk 1 rfl (EL.nil (EX.seq (E.ret (EX.retT (EX.retE H tabOk rfl rfl)))))))))
  · skip
    obtain ⟨y45, hy46, H⟩ := bind_some H; obtain ⟨g54, g55, g56, g57⟩ := idx_some hy46; obtain ⟨b47, o48, u49, hA50, hn53, hu51, hc52⟩ := idx_at hy46 h13
    obtain rfl : _ = _ := hu51
    obtain ⟨x58, hx59, H⟩ := bind_some H
    refine E.fewer (env' := [(2, some (.v (.int .i64 p2))), (3, some (.p 0 0)), (7, some (.v (.slice A11 x5.length c12))), (8, some (.v (.int .i64 x14)))]) (L' := [.box 24 [.v (.slice A1 p0.Buckets.length c2), .v (.int .i64 p0.Slots), .v (.int .i64 p0.Age)]]) (E.sub' (E.draw mixed (fun (bs : List Bool) (env : Env) (L : List Ent) (Γ : Ghost) => match bs with | [b0', b1', b2', b3', b4', b5', b6', b7', b8', b9', b10'] =>  env = [(15, bif b0' then some (.v (.int .i64 x14)) else none), (16, bif b1' then some (.ff) else none), (17, bif b2' then some (.ff) else none), (18, bif b3' then some (.v (.agg #[.slice A1 p0.Buckets.length c2, .int .i64 p0.Slots, .int .i64 p0.Age])) else none), (19, bif b4' then some (.v (.slice A11 x5.length c12)) else none), (20, bif b5' then some (.v (.int .i64 x14)) else none), (21, bif b6' then some (.v (.pointer (some ⟨b47, o48 + (x14).toNat * 4, none⟩))) else none), (22, bif b7' then some (.v (.agg #[.int .i64 y45.Mac, .int .i64 y45.Port, .int .i64 y45.Seen, .bool y45.Static])) else none), (23, bif b8' then some (.v (.int .i64 p2)) else none), (24, bif b9' then some (.v (.bool x58)) else none), (25, bif b10' then some (.v (.bool x58)) else none), (2, some (.v (.int .i64 p2))), (3, some (.p 0 0)), (7, some (.v (.slice A11 x5.length c12))), (8, some (.v (.int .i64 x14)))] ∧ L = [.box 24 [.v (.slice A1 p0.Buckets.length c2), .v (.int .i64 p0.Slots), .v (.int .i64 p0.Age)]] ∧ GLe G17 Γ | _ => False) ⟨rfl, rfl, GLe.refl _⟩ rfl ?_ ?_) ⟨rfl, rfl, rfl, rfl, rfl, rfl, rfl, rfl, rfl, rfl, rfl, rfl, rfl, rfl, rfl, trivial⟩) ⟨⟨_, rfl, rfl⟩, ⟨_, rfl, rfl⟩, ⟨_, rfl, rfl⟩, ⟨_, rfl, rfl⟩, trivial⟩ ⟨.inr rfl, trivial⟩ rfl rfl
    · refine ⟨?_, ?_, ?_, ?_, ?_, ?_, ?_, ?_, ?_, ?_, ?_, trivial⟩
      · intro b0' b1' b2' b3' b4' b5' b6' b7' b8' b9' b10'
        rintro ⟨⟩ ⟨⟩
        rintro _ _ G61 ⟨rfl, rfl, hle60⟩ K hK
        exact EL.step tabOk rfl (EL.nil (EX.sub' (hK _ _ _ ⟨rfl, rfl, hle60⟩) ⟨rfl, rfl, rfl, rfl, rfl, rfl, rfl, rfl, rfl, rfl, rfl, rfl, rfl, rfl, rfl, trivial⟩))
      · intro b0' b1' b2' b3' b4' b5' b6' b7' b8' b9' b10'
        rintro ⟨⟩ ⟨⟩ ⟨⟩
        rintro _ _ G63 ⟨rfl, rfl, hle62⟩ K hK
        exact EL.step tabOk rfl (EL.known 16 rfl (c := false) hb20 (EL.nil (EX.sub' (hK _ _ _ ⟨rfl, rfl, hle62⟩) ⟨rfl, rfl, rfl, rfl, rfl, rfl, rfl, rfl, rfl, rfl, rfl, rfl, rfl, rfl, rfl, trivial⟩)))
      · intro b0' b1' b2' b3' b4' b5' b6' b7' b8' b9' b10'
        rintro ⟨⟩ ⟨⟩ ⟨⟩ ⟨⟩ ⟨⟩ ⟨⟩ ⟨⟩ ⟨⟩ ⟨⟩ ⟨⟩
        rintro _ _ G65 ⟨rfl, rfl, hle64⟩ K hK
        exact EL.step tabOk rfl (EL.nil (EX.sub' (hK _ _ _ ⟨rfl, rfl, hle64⟩) ⟨rfl, rfl, rfl, rfl, rfl, rfl, rfl, rfl, rfl, rfl, rfl, rfl, rfl, rfl, rfl, trivial⟩))
      · intro b0' b1' b2' b3' b4' b5' b6' b7' b8' b9' b10'
        rintro ⟨⟩ ⟨⟩ ⟨⟩
        rintro _ _ G67 ⟨rfl, rfl, hle66⟩ K hK
        have h3 := Rep.mono hle66 h3
        exact EL.step tabOk rfl (EL.nil (EX.sub' (hK _ _ _ ⟨rfl, rfl, hle66⟩) ⟨rfl, rfl, rfl, rfl, rfl, rfl, rfl, rfl, rfl, rfl, rfl, rfl, rfl, rfl, rfl, trivial⟩))
      · intro b0' b1' b2' b3' b4' b5' b6' b7' b8' b9' b10'
        rintro ⟨⟩ ⟨⟩ ⟨⟩
        rintro _ _ G69 ⟨rfl, rfl, hle68⟩ K hK
        have h13 := Rep.mono hle68 h13
        exact EL.step tabOk rfl (EL.nil (EX.sub' (hK _ _ _ ⟨rfl, rfl, hle68⟩) ⟨rfl, rfl, rfl, rfl, rfl, rfl, rfl, rfl, rfl, rfl, rfl, rfl, rfl, rfl, rfl, trivial⟩))
      · intro b0' b1' b2' b3' b4' b5' b6' b7' b8' b9' b10'
        rintro ⟨⟩ ⟨⟩ ⟨⟩
        rintro _ _ G71 ⟨rfl, rfl, hle70⟩ K hK
        exact EL.step tabOk rfl (EL.nil (EX.sub' (hK _ _ _ ⟨rfl, rfl, hle70⟩) ⟨rfl, rfl, rfl, rfl, rfl, rfl, rfl, rfl, rfl, rfl, rfl, rfl, rfl, rfl, rfl, trivial⟩))
      · intro b0' b1' b2' b3' b4' b5' b6' b7' b8' b9' b10'
        rintro ⟨⟩ ⟨⟩ ⟨⟩ ⟨⟩ ⟨⟩
        rintro _ _ G73 ⟨rfl, rfl, hle72⟩ K hK
        have h13 := Rep.mono hle72 h13
        exact EL.indexAt (b := b47) (o' := o48) (n := x5.length) (c := c12) g54 g56 tabOk rfl rfl rfl (by rw [← hA50]; rfl) rfl rfl rfl (EL.nil (EX.sub' (hK _ _ _ ⟨rfl, rfl, hle72⟩) ⟨rfl, rfl, rfl, rfl, rfl, rfl, rfl, rfl, rfl, rfl, rfl, rfl, rfl, rfl, rfl, trivial⟩))
      · intro b0' b1' b2' b3' b4' b5' b6' b7' b8' b9' b10'
        rintro ⟨⟩ ⟨⟩ ⟨⟩ ⟨⟩
        rintro _ _ G75 ⟨rfl, rfl, hle74⟩ K hK
        have hc52 := CellsAt.mono hle74 hc52
        exact EL.load hc52 tabOk rfl rfl rfl rfl rfl rfl (EL.nil (EX.sub' (hK _ _ _ ⟨rfl, rfl, hle74⟩) ⟨rfl, rfl, rfl, rfl, rfl, rfl, rfl, rfl, rfl, rfl, rfl, rfl, rfl, rfl, rfl, trivial⟩))
      · intro b0' b1' b2' b3' b4' b5' b6' b7' b8' b9' b10'
        rintro ⟨⟩ ⟨⟩ ⟨⟩
        rintro _ _ G77 ⟨rfl, rfl, hle76⟩ K hK
        exact EL.step tabOk rfl (EL.nil (EX.sub' (hK _ _ _ ⟨rfl, rfl, hle76⟩) ⟨rfl, rfl, rfl, rfl, rfl, rfl, rfl, rfl, rfl, rfl, rfl, rfl, rfl, rfl, rfl, trivial⟩))
      · intro b0' b1' b2' b3' b4' b5' b6' b7' b8' b9' b10'
        rintro ⟨⟩ ⟨⟩ ⟨⟩ ⟨⟩ ⟨⟩ ⟨⟩ ⟨⟩
        rintro _ _ G79 ⟨rfl, rfl, hle78⟩ K hK
        have h3 := Rep.mono hle78 h3
        refine EL.call rfl rfl rfl rfl ref08_Old_enters (fun w hw => ref08_Old_ok hx59 hw ⟨_, rfl, h3⟩) (fun v80 G83 hle82 hv81 => ?_)
        obtain rfl : _ = _ := hv81
        exact EL.nil (EX.sub' (hK _ _ _ ⟨rfl, rfl, (GLe.trans hle78 hle82)⟩) ⟨rfl, rfl, rfl, rfl, rfl, rfl, rfl, rfl, rfl, rfl, rfl, rfl, rfl, rfl, rfl, trivial⟩)
      · intro b0' b1' b2' b3' b4' b5' b6' b7' b8' b9' b10'
        rintro ⟨⟩ ⟨⟩ ⟨⟩
        rintro _ _ G85 ⟨rfl, rfl, hle84⟩ K hK
        exact EL.step tabOk rfl (EL.nil (EX.sub' (hK _ _ _ ⟨rfl, rfl, hle84⟩) ⟨rfl, rfl, rfl, rfl, rfl, rfl, rfl, rfl, rfl, rfl, rfl, rfl, rfl, rfl, rfl, trivial⟩))
    rintro _ _ G87 ⟨rfl, rfl, hle86⟩
    have h13 := Rep.mono hle86 h13
    have h3 := Rep.mono hle86 h3
    refine EX.seq (E.cond rfl H (fun hb H => ?_) (fun hb H => ?_))
    · skip
      exact E.seq (E.region (EL.run tabOk 1 rfl (EL.nil (EX.seq (E.ret (EX.retT (EX.retE H tabOk rfl rfl)))))))
    · skip
      refine E.skip (EX.seq (E.seq (E.region (EL.run tabOk 2 rfl ?_))))
      obtain ⟨y88, hy89, H⟩ := bind_some H
      refine EL.index hy89 h13 tabOk rfl rfl rfl rfl rfl rfl rfl rfl (fun b90 o91 u92 hu93 hc94 => ?_)
      obtain rfl : _ = _ := hu93
      exact EL.run tabOk 1 rfl (EL.load (CellsAt.fld (j := 1) hc94 rfl rfl) tabOk rfl rfl rfl rfl rfl rfl (EL.run tabOk 1 rfl (EL.nil (EX.seq (E.ret (EX.retE H tabOk rfl rfl))))))
theorem ref08_without_enters : Enters Try.prog 49 := ⟨_, Try.func49, rfl, rfl⟩
set_option maxHeartbeats 4000000 in
theorem ref08_without_ok {k : Nat} {p0 : (List Entry)} {p1 : Int} {r : (List Entry)} (H : ref08_without k p0 p1 = some r) {G : Ghost} {w : World} (hG : Holds G w) {v0 : Value} (h0 : R G p0 v0) : Ret Try.prog 49 [v0, .int .i64 p1] w G (fun G v => R G r v) := by
  obtain ⟨A1, c2, rfl, h3⟩ := Sl.open h0
  unfold ref08_without at H
  refine start Try.func49 rfl Try.ntmps49 rfl hG (E.seq (E.region (EL.run tabOk 1 rfl (EL.nil (EX.seq (E.seq (E.region (EL.run tabOk 2 rfl (EL.nil (EX.seq (E.seq (E.seq (E.region (EL.run tabOk 3 rfl (EL.nil (EX.seq (E.join (fun env L Γ => ∃ (l4 : (List Entry)) (es5 : List Value), env = [(5, some (.row 0))] ∧ L = [.row 49 4 l4.length es5] ∧ GLe G Γ ∧ Els Γ l4 es5 ∧ ref08_without_j1 k l4 = some r) ?_ (fun hj7 => ?_))))))))))))))))))
  · skip
    rintro _ _ G9 ⟨l4, es5, rfl, rfl, hle8, h6, H⟩
    unfold ref08_without_j1 at H
    refine EX.seq (E.seq (E.region (EL.run tabOk 2 rfl (EL.nil (EX.seq (E.ret (EX.pubRow (xs := l4) 0 rfl h6 rfl (fun k10 A11 c12 G15 hle13 h14 => ?_))))))))
    exact EX.retE H tabOk rfl h14
  · skip
    refine E.block (E.fewer (E.loop (fun n env L Γ => ∃ (i16 : Int) (l17 : (List Entry)) (es18 : List Value), env = [(1, some (.v (.int .i64 p1))), (5, some (.row 0)), (9, some (.v (.slice A1 p0.length c2))), (10, some (.v (.int .i64 (p0.length : Int)))), (11, some (.v (.int .i64 i16)))] ∧ L = [.row 49 4 l17.length es18] ∧ GLe G Γ ∧ Els Γ l17 es18 ∧ loopN (fun _ _ => none) (ref08_without_s3 k p0 p1) n i16 l17 = some r) k ⟨0, ([] : List Entry), [], rfl, rfl, GLe.refl _, All2.nil, H⟩ ?_) ⟨⟨_, rfl, rfl⟩, ⟨_, rfl, rfl⟩, ⟨_, rfl, rfl⟩, ⟨_, rfl, rfl⟩, ⟨_, rfl, rfl⟩, trivial⟩ ⟨.inr rfl, trivial⟩ rfl rfl)
    rintro n24 _ _ G22 ⟨i16, l17, es18, rfl, rfl, hle20, h19, H⟩ K hK23
    obtain _ | n24 := n24
    · exact none_ne H
    rw [loopN] at H; unfold ref08_without_s3 at H
    have h3 := Rep.mono hle20 h3
    refine E.seq (E.region (EL.run tabOk 1 rfl (EL.nil (EX.seq (E.seq (E.cond rfl H (fun hb H => ?_) (fun hb H => ?_)))))))
    · skip
      refine E.skip (EX.seq (E.seq (E.block (E.seq (E.region ?_)))))
      obtain ⟨y25, hy26, H⟩ := bind_some H
      refine EL.index hy26 h3 tabOk rfl rfl rfl rfl rfl rfl rfl rfl (fun b27 o28 u29 hu30 hc31 => ?_)
      obtain rfl : _ = _ := hu30
      refine EL.load hc31 tabOk rfl rfl rfl rfl rfl rfl (EL.run tabOk 2 rfl (EL.nil (EX.seq (E.seq (E.region (EL.run tabOk 4 rfl (EL.nil (EX.seq (E.join (fun env L Γ => ∃ (l32 : (List Entry)) (es33 : List Value), env = [(1, some (.v (.int .i64 p1))), (5, some (.row 0)), (9, some (.v (.slice A1 p0.length c2))), (10, some (.v (.int .i64 (p0.length : Int)))), (11, some (.v (.int .i64 i16)))] ∧ L = [.row 49 4 l32.length es33, .box 49 [.v (.int .i64 y25.Mac), .v (.int .i64 y25.Port), .v (.int .i64 y25.Seen), .v (.bool y25.Static)]] ∧ GLe G22 Γ ∧ Els Γ l32 es33 ∧ ref08_without_j2 k i16 (loopN (fun _ _ => none) (ref08_without_s3 k p0 p1) n24) l32 = some r) ?_ (fun hj35 => ?_))))))))))
      · skip
        rintro _ _ G37 ⟨l32, es33, rfl, rfl, hle36, h34, H⟩
        unfold ref08_without_j2 at H
        have h3 := Rep.mono hle36 h3
        exact EX.block (EX.seq (E.region (EL.run tabOk 2 rfl (EL.nil (EX.fewer (hK23 n24 _ _ _ (Nat.lt_succ_self _) ⟨wr (i16 + 1), l32, es33, rfl, rfl, (GLe.trans hle20 hle36), h34, H⟩) ⟨⟨_, rfl, rfl⟩, ⟨_, rfl, rfl⟩, ⟨_, rfl, rfl⟩, ⟨_, rfl, rfl⟩, ⟨_, rfl, rfl⟩, trivial⟩ ⟨.inr rfl, trivial⟩ rfl rfl)))))
      · skip
        refine E.cond rfl H (fun hb H => ?_) (fun hb H => ?_)
        · skip
          refine E.region (EL.run tabOk 3 rfl ?_)
          obtain ⟨l38, hp39, H⟩ := bind_some H
          refine EL.push hp39 h19 (show R G22 y25 (.agg #[.int .i64 y25.Mac, .int .i64 y25.Port, .int .i64 y25.Seen, .bool y25.Static]) from rfl) tabOk rfl rfl rfl rfl rfl rfl rfl rfl rfl rfl rfl rfl rfl rfl rfl (fun k40 v41 es42 h43 => ?_)
          exact EL.run tabOk 1 rfl (EL.nil (EX.fewer (hj35 _ _ _ ⟨l38, es42, rfl, rfl, (GLe.refl _), h43, H⟩) ⟨⟨_, rfl, rfl⟩, ⟨_, rfl, rfl⟩, ⟨_, rfl, rfl⟩, ⟨_, rfl, rfl⟩, ⟨_, rfl, rfl⟩, trivial⟩ ⟨.inr rfl, .inr rfl, trivial⟩ rfl rfl))
        · skip
          exact E.skip (EX.fewer (hj35 _ _ _ ⟨l17, es18, rfl, rfl, (GLe.refl _), h19, H⟩) ⟨⟨_, rfl, rfl⟩, ⟨_, rfl, rfl⟩, ⟨_, rfl, rfl⟩, ⟨_, rfl, rfl⟩, ⟨_, rfl, rfl⟩, trivial⟩ ⟨.inr rfl, .inr rfl, trivial⟩ rfl rfl)
    · skip
      exact E.exit (EX.out (EX.out (EX.hit (EX.fewer (hj7 _ _ _ ⟨l17, es18, rfl, rfl, hle20, h19, H⟩) ⟨⟨_, rfl, rfl⟩, trivial⟩ ⟨.inr rfl, trivial⟩ rfl rfl))))
theorem ref08_with_enters : Enters Try.prog 51 := ⟨_, Try.func51, rfl, rfl⟩
set_option maxHeartbeats 4000000 in
theorem ref08_with_ok {k : Nat} {p0 : Table} {p1 : Int} {p2 : (List Entry)} {r : Table} (H : ref08_with k p0 p1 p2 = some r) {G : Ghost} {w : World} (hG : Holds G w) {v0 : Value} (h0 : R G p0 v0) {v2 : Value} (h2 : R G p2 v2) : Ret Try.prog 51 [v0, .int .i64 p1, v2] w G (fun G v => R G r v) := by
  obtain ⟨v4, rfl, h3⟩ := h0
  obtain ⟨A1, c2, rfl, h3⟩ := Sl.open h3
  obtain ⟨A5, c6, rfl, h7⟩ := Sl.open h2
  unfold ref08_with at H
  refine start Try.func51 rfl Try.ntmps51 rfl hG (E.seq (E.region (EL.run tabOk 2 rfl (EL.nil (EX.seq (E.seq (E.region (EL.run tabOk 2 rfl (EL.nil (EX.seq (E.seq (E.seq (E.region (EL.run tabOk 4 rfl (EL.nil (EX.seq (E.join (fun env L Γ => ∃ (l8 : (List (List Entry))) (es9 : List Value), env = [(3, some (.p 0 0)), (6, some (.p 1 0)), (7, some (.row 2))] ∧ L = [.box 24 [.v (.slice A1 p0.Buckets.length c2), .v (.int .i64 p0.Slots), .v (.int .i64 p0.Age)], .box 24 [.v (.slice none 0 0), .v (.int .i64 0), .v (.int .i64 0)], .row 44 1 l8.length es9] ∧ GLe G Γ ∧ Els Γ l8 es9 ∧ ref08_with_j1 k p0 l8 = some r) ?_ (fun hj11 => ?_))))))))))))))))))
  · skip
    rintro _ _ G13 ⟨l8, es9, rfl, rfl, hle12, h10, H⟩
    unfold ref08_with_j1 at H
    have h3 := Rep.mono hle12 h3
    refine EX.seq (E.seq (E.region (EL.run tabOk 3 rfl (EL.nil (EX.seq (E.seq (E.region (EL.run tabOk 2 rfl (EL.nil (EX.seq (E.ret (EX.pubRow (xs := l8) 2 rfl h10 rfl (fun k14 A15 c16 G19 hle17 h18 => ?_)))))))))))))
    exact EX.retE H tabOk rfl ⟨_, rfl, h18⟩
  · skip
    refine E.block (E.fewer (E.loop (fun n env L Γ => ∃ (i20 : Int) (l21 : (List (List Entry))) (es22 : List Value), env = [(1, some (.v (.int .i64 p1))), (2, some (.v (.slice A5 p2.length c6))), (3, some (.p 0 0)), (6, some (.p 1 0)), (7, some (.row 2)), (12, some (.v (.slice A1 p0.Buckets.length c2))), (13, some (.v (.int .i64 (p0.Buckets.length : Int)))), (14, some (.v (.int .i64 i20)))] ∧ L = [.box 24 [.v (.slice A1 p0.Buckets.length c2), .v (.int .i64 p0.Slots), .v (.int .i64 p0.Age)], .box 24 [.v (.slice none 0 0), .v (.int .i64 0), .v (.int .i64 0)], .row 44 1 l21.length es22] ∧ GLe G Γ ∧ Els Γ l21 es22 ∧ loopN (fun _ _ => none) (ref08_with_s3 k p0 p1 p2) n i20 l21 = some r) k ⟨0, ([] : List (List Entry)), [], rfl, rfl, GLe.refl _, All2.nil, H⟩ ?_) ⟨⟨_, rfl, rfl⟩, ⟨_, rfl, rfl⟩, ⟨_, rfl, rfl⟩, ⟨_, rfl, rfl⟩, ⟨_, rfl, rfl⟩, ⟨_, rfl, rfl⟩, ⟨_, rfl, rfl⟩, ⟨_, rfl, rfl⟩, trivial⟩ ⟨.inr rfl, .inr rfl, .inr rfl, trivial⟩ rfl rfl)
    rintro n28 _ _ G26 ⟨i20, l21, es22, rfl, rfl, hle24, h23, H⟩ K hK27
    obtain _ | n28 := n28
    · exact none_ne H
    rw [loopN] at H; unfold ref08_with_s3 at H
    have h7 := Rep.mono hle24 h7; have h3 := Rep.mono hle24 h3
    refine E.seq (E.region (EL.run tabOk 1 rfl (EL.nil (EX.seq (E.seq (E.cond rfl H (fun hb H => ?_) (fun hb H => ?_)))))))
    · skip
      refine E.skip (EX.seq (E.seq (E.block (E.seq (E.region (EL.run tabOk 1 rfl ?_))))))
      obtain ⟨y29, hy30, H⟩ := bind_some H
      refine EL.index hy30 h3 tabOk rfl rfl rfl rfl rfl rfl rfl rfl (fun b31 o32 u33 hu34 hc35 => ?_)
      obtain ⟨A36, c37, rfl, h38⟩ := Sl.open hu34
      refine EL.load hc35 tabOk rfl rfl rfl rfl rfl rfl (EL.run tabOk 2 rfl (EL.nil (EX.seq (E.seq (E.seq (E.region (EL.run tabOk 5 rfl ?_)))))))
      obtain ⟨x39, hx40, H⟩ := bind_some H
      refine EL.call rfl rfl rfl rfl ref07_Bucket_enters (fun w hw => ref07_Bucket_ok hx40 hw ) (fun v43 G42 hle41 hv44 => ?_)
      have h7 := Rep.mono hle41 h7; have h3 := Rep.mono hle41 h3; have h38 := Rep.mono hle41 h38; have h23 := Els.mono h23 hle41
      obtain rfl : _ = _ := hv44
      refine EL.run tabOk 1 rfl (EL.nil (EX.seq (E.join (fun env L Γ => ∃ (l45 : (List Entry)) (A46 : Option Addr) (c47 : Nat), env = [(1, some (.v (.int .i64 p1))), (2, some (.v (.slice A5 p2.length c6))), (3, some (.p 0 0)), (6, some (.p 1 0)), (7, some (.row 2)), (9, some (.v (.slice A46 l45.length c47))), (12, some (.v (.slice A1 p0.Buckets.length c2))), (13, some (.v (.int .i64 (p0.Buckets.length : Int)))), (14, some (.v (.int .i64 i20)))] ∧ L = [.box 24 [.v (.slice A1 p0.Buckets.length c2), .v (.int .i64 p0.Slots), .v (.int .i64 p0.Age)], .box 24 [.v (.slice none 0 0), .v (.int .i64 0), .v (.int .i64 0)], .row 44 1 l21.length es22] ∧ GLe G42 Γ ∧ R Γ l45 (.slice A46 l45.length c47) ∧ ref08_with_j2 k i20 l21 (loopN (fun _ _ => none) (ref08_with_s3 k p0 p1 p2) n28) l45 = some r) ?_ (fun hj49 => ?_))))
      · skip
        rintro _ _ G51 ⟨l45, A46, c47, rfl, rfl, hle50, h48, H⟩
        unfold ref08_with_j2 at H
        have h7 := Rep.mono hle50 h7; have h3 := Rep.mono hle50 h3; have h23 := Els.mono h23 hle50
        refine EX.seq (E.region (EL.run tabOk 3 rfl ?_))
        obtain ⟨l52, hp53, H⟩ := bind_some H
        refine EL.push hp53 h23 (show R G51 l45 (.slice A46 l45.length c47) from h48) tabOk rfl rfl rfl rfl rfl rfl rfl rfl rfl rfl rfl rfl rfl rfl rfl (fun k54 v55 es56 h57 => ?_)
        exact EL.run tabOk 1 rfl (EL.nil (EX.block (EX.seq (E.region (EL.run tabOk 2 rfl (EL.nil (EX.fewer (hK27 n28 _ _ _ (Nat.lt_succ_self _) ⟨wr (i20 + 1), l52, es56, rfl, rfl, (GLe.trans (GLe.trans hle24 hle41) hle50), h57, H⟩) ⟨⟨_, rfl, rfl⟩, ⟨_, rfl, rfl⟩, ⟨_, rfl, rfl⟩, ⟨_, rfl, rfl⟩, ⟨_, rfl, rfl⟩, ⟨_, rfl, rfl⟩, ⟨_, rfl, rfl⟩, ⟨_, rfl, rfl⟩, trivial⟩ ⟨.inr rfl, .inr rfl, .inr rfl, trivial⟩ rfl rfl)))))))
      · skip
        refine E.cond rfl H (fun hb H => ?_) (fun hb H => ?_)
        · skip
          exact E.region (EL.run tabOk 2 rfl (EL.nil (EX.fewer (hj49 _ _ _ ⟨p2, A5, c6, rfl, rfl, (GLe.refl _), h7, H⟩) ⟨⟨_, rfl, rfl⟩, ⟨_, rfl, rfl⟩, ⟨_, rfl, rfl⟩, ⟨_, rfl, rfl⟩, ⟨_, rfl, rfl⟩, ⟨_, rfl, rfl⟩, ⟨_, rfl, rfl⟩, ⟨_, rfl, rfl⟩, ⟨_, rfl, rfl⟩, trivial⟩ ⟨.inr rfl, .inr rfl, .inr rfl, trivial⟩ rfl rfl)))
        · skip
          exact E.skip (EX.fewer (hj49 _ _ _ ⟨y29, A36, c37, rfl, rfl, (GLe.refl _), h38, H⟩) ⟨⟨_, rfl, rfl⟩, ⟨_, rfl, rfl⟩, ⟨_, rfl, rfl⟩, ⟨_, rfl, rfl⟩, ⟨_, rfl, rfl⟩, ⟨_, rfl, rfl⟩, ⟨_, rfl, rfl⟩, ⟨_, rfl, rfl⟩, ⟨_, rfl, rfl⟩, trivial⟩ ⟨.inr rfl, .inr rfl, .inr rfl, trivial⟩ rfl rfl)
    · skip
      exact E.exit (EX.out (EX.out (EX.hit (EX.fewer (hj11 _ _ _ ⟨l21, es22, rfl, rfl, hle24, h23, H⟩) ⟨⟨_, rfl, rfl⟩, ⟨_, rfl, rfl⟩, ⟨_, rfl, rfl⟩, trivial⟩ ⟨.inr rfl, .inr rfl, .inr rfl, trivial⟩ rfl rfl))))
theorem ref08_last_enters : Enters Try.prog 50 := ⟨_, Try.func50, rfl, rfl⟩
set_option maxHeartbeats 4000000 in
theorem ref08_last_ok {k : Nat} {p0 : (List Entry)} {r : Int} (H : ref08_last k p0 = some r) {G : Ghost} {w : World} (hG : Holds G w) {v0 : Value} (h0 : R G p0 v0) : Ret Try.prog 50 [v0] w G (fun G v => R G r v) := by
  obtain ⟨A1, c2, rfl, h3⟩ := Sl.open h0
  unfold ref08_last at H
  refine start Try.func50 rfl Try.ntmps50 rfl hG (E.seq (E.region (EL.run tabOk 1 rfl (EL.nil (EX.seq (E.seq (E.region (EL.run tabOk 1 rfl (EL.nil (EX.seq (E.seq (E.seq (E.region (EL.run tabOk 3 rfl (EL.nil (EX.seq (E.join (fun env L Γ => ∃ (i4 : Int), env = [(3, some (.v (.int .i64 i4)))] ∧ L = [] ∧ GLe G Γ ∧ ref08_last_j1 k i4 = some r) ?_ (fun hj5 => ?_))))))))))))))))))
  · skip
    rintro _ _ G7 ⟨i4, rfl, rfl, hle6, H⟩
    unfold ref08_last_j1 at H
    exact EX.seq (E.seq (E.region (EL.run tabOk 2 rfl (EL.nil (EX.seq (E.ret (EX.retE H tabOk rfl rfl)))))))
  · skip
    refine E.block (E.fewer (E.loop (fun n env L Γ => ∃ (i8 : Int) (i9 : Int), env = [(3, some (.v (.int .i64 i8))), (6, some (.v (.slice A1 p0.length c2))), (7, some (.v (.int .i64 (p0.length : Int)))), (8, some (.v (.int .i64 i9)))] ∧ L = [] ∧ GLe G Γ ∧ loopN (fun _ _ => none) (ref08_last_s3 k p0) n i8 i9 = some r) k ⟨(-1), 0, rfl, rfl, GLe.refl _, H⟩ ?_) ⟨⟨_, rfl, rfl⟩, ⟨_, rfl, rfl⟩, ⟨_, rfl, rfl⟩, ⟨_, rfl, rfl⟩, trivial⟩ trivial rfl rfl)
    rintro n14 _ _ G12 ⟨i8, i9, rfl, rfl, hle10, H⟩ K hK13
    obtain _ | n14 := n14
    · exact none_ne H
    rw [loopN] at H; unfold ref08_last_s3 at H
    have h3 := Rep.mono hle10 h3
    refine E.seq (E.region (EL.run tabOk 1 rfl (EL.nil (EX.seq (E.seq (E.cond rfl H (fun hb H => ?_) (fun hb H => ?_)))))))
    · skip
      refine E.skip (EX.seq (E.seq (E.block (E.seq (E.region (EL.run tabOk 1 rfl ?_))))))
      obtain ⟨y15, hy16, H⟩ := bind_some H
      refine EL.index hy16 h3 tabOk rfl rfl rfl rfl rfl rfl rfl rfl (fun b17 o18 u19 hu20 hc21 => ?_)
      obtain rfl : _ = _ := hu20
      refine EL.load hc21 tabOk rfl rfl rfl rfl rfl rfl (EL.run tabOk 3 rfl (EL.nil (EX.seq (E.seq (E.region (EL.run tabOk 3 rfl (EL.nil (EX.seq (E.join (fun env L Γ => ∃ (i22 : Int), env = [(3, some (.v (.int .i64 i22))), (6, some (.v (.slice A1 p0.length c2))), (7, some (.v (.int .i64 (p0.length : Int)))), (8, some (.v (.int .i64 i9)))] ∧ L = [.box 49 [.v (.int .i64 y15.Mac), .v (.int .i64 y15.Port), .v (.int .i64 y15.Seen), .v (.bool y15.Static)]] ∧ GLe G12 Γ ∧ ref08_last_j2 k i9 (loopN (fun _ _ => none) (ref08_last_s3 k p0) n14) i22 = some r) ?_ (fun hj23 => ?_))))))))))
      · skip
        rintro _ _ G25 ⟨i22, rfl, rfl, hle24, H⟩
        unfold ref08_last_j2 at H
        have h3 := Rep.mono hle24 h3
        exact EX.block (EX.seq (E.region (EL.run tabOk 2 rfl (EL.nil (EX.fewer (hK13 n14 _ _ _ (Nat.lt_succ_self _) ⟨i22, wr (i9 + 1), rfl, rfl, (GLe.trans hle10 hle24), H⟩) ⟨⟨_, rfl, rfl⟩, ⟨_, rfl, rfl⟩, ⟨_, rfl, rfl⟩, ⟨_, rfl, rfl⟩, trivial⟩ trivial rfl rfl)))))
      · skip
        refine E.cond rfl H (fun hb H => ?_) (fun hb H => ?_)
        · skip
          exact E.region (EL.run tabOk 2 rfl (EL.nil (EX.fewer (hj23 _ _ _ ⟨i9, rfl, rfl, (GLe.refl _), H⟩) ⟨⟨_, rfl, rfl⟩, ⟨_, rfl, rfl⟩, ⟨_, rfl, rfl⟩, ⟨_, rfl, rfl⟩, trivial⟩ ⟨.inr rfl, trivial⟩ rfl rfl)))
        · skip
          exact E.skip (EX.fewer (hj23 _ _ _ ⟨i8, rfl, rfl, (GLe.refl _), H⟩) ⟨⟨_, rfl, rfl⟩, ⟨_, rfl, rfl⟩, ⟨_, rfl, rfl⟩, ⟨_, rfl, rfl⟩, trivial⟩ ⟨.inr rfl, trivial⟩ rfl rfl)
    · skip
      exact E.exit (EX.out (EX.out (EX.hit (EX.fewer (hj5 _ _ _ ⟨i8, rfl, rfl, hle10, H⟩) ⟨⟨_, rfl, rfl⟩, trivial⟩ trivial rfl rfl))))
theorem ref08_put_enters : Enters Try.prog 36 := ⟨_, Try.func36, rfl, rfl⟩
set_option maxHeartbeats 4000000 in
theorem ref08_put_ok {k : Nat} {p0 : Table} {p1 : Entry} {r : (Table × Bool)} (H : ref08_put k p0 p1 = some r) {G : Ghost} {w : World} (hG : Holds G w) {v0 : Value} (h0 : R G p0 v0) : Ret Try.prog 36 [v0, .agg #[.int .i64 p1.Mac, .int .i64 p1.Port, .int .i64 p1.Seen, .bool p1.Static]] w G (fun G v => R2 G r v) := by
  obtain ⟨v4, rfl, h3⟩ := h0
  obtain ⟨A1, c2, rfl, h3⟩ := Sl.open h3
  unfold ref08_put at H
  refine start Try.func36 rfl Try.ntmps36 rfl hG (E.seq (E.region (EL.run tabOk 4 rfl (EL.nil (EX.seq (E.seq ?_))))))
  obtain ⟨x5, hx6, H⟩ := bind_some H
  obtain ⟨x10, hx11, H⟩ := bind_some H
  refine E.fewer (env' := [(2, some (.p 0 0)), (3, some (.p 1 0)), (4, some (.p 2 0))]) (L' := [.box 24 [.v (.slice A1 p0.Buckets.length c2), .v (.int .i64 p0.Slots), .v (.int .i64 p0.Age)], .box 49 [.v (.int .i64 p1.Mac), .v (.int .i64 p1.Port), .v (.int .i64 p1.Seen), .v (.bool p1.Static)], .box 24 [.v (.slice none 0 0), .v (.int .i64 0), .v (.int .i64 0)]]) (E.sub' (E.draw mixed (fun (bs : List Bool) (env : Env) (L : List Ent) (Γ : Ghost) => match bs with | [b0', b1', b2', b3', b4', b5', b6', b7'] => ∃ (A7 : Option Addr) (c8 : Nat) (A12 : Option Addr) (c13 : Nat), env = [(9, bif b0' then some (.v (.agg #[.slice A1 p0.Buckets.length c2, .int .i64 p0.Slots, .int .i64 p0.Age])) else none), (10, bif b1' then some (.p 1 0) else none), (11, bif b2' then some (.v (.int .i64 p1.Mac)) else none), (12, bif b3' then some (.v (.slice A7 x5.length c8)) else none), (13, bif b4' then some (.p 1 0) else none), (14, bif b5' then some (.v (.int .i64 p1.Mac)) else none), (15, bif b6' then some (.v (.slice A12 x10.length c13)) else none), (6, bif b7' then some (.v (.slice A12 x10.length c13)) else none), (2, some (.p 0 0)), (3, some (.p 1 0)), (4, some (.p 2 0))] ∧ L = [.box 24 [.v (.slice A1 p0.Buckets.length c2), .v (.int .i64 p0.Slots), .v (.int .i64 p0.Age)], .box 49 [.v (.int .i64 p1.Mac), .v (.int .i64 p1.Port), .v (.int .i64 p1.Seen), .v (.bool p1.Static)], .box 24 [.v (.slice none 0 0), .v (.int .i64 0), .v (.int .i64 0)]] ∧ GLe G Γ ∧ (b3' = true → R Γ x5 (.slice A7 x5.length c8)) ∧ (b6' = true → R Γ x10 (.slice A12 x10.length c13)) | _ => False) ⟨none, 0, none, 0, rfl, rfl, GLe.refl _, (fun h => nomatch h), (fun h => nomatch h)⟩ rfl ?_ ?_) ⟨rfl, rfl, rfl, rfl, rfl, rfl, rfl, rfl, rfl, rfl, rfl, trivial⟩) ⟨⟨_, rfl, rfl⟩, ⟨_, rfl, rfl⟩, ⟨_, rfl, rfl⟩, trivial⟩ ⟨.inr rfl, .inr rfl, .inr rfl, trivial⟩ rfl rfl
  · refine ⟨?_, ?_, ?_, ?_, ?_, ?_, ?_, ?_, trivial⟩
    · intro b0' b1' b2' b3' b4' b5' b6' b7'
      rintro ⟨⟩ ⟨⟩ ⟨⟩
      rintro _ _ G16 ⟨A7, c8, A12, c13, rfl, rfl, hle15, fh9, fh14⟩ K hK
      have h3 := Rep.mono hle15 h3
      exact EL.step tabOk rfl (EL.nil (EX.sub' (hK _ _ _ ⟨A7, c8, A12, c13, rfl, rfl, hle15, fh9, fh14⟩) ⟨rfl, rfl, rfl, rfl, rfl, rfl, rfl, rfl, rfl, rfl, rfl, trivial⟩))
    · intro b0' b1' b2' b3' b4' b5' b6' b7'
      rintro ⟨⟩ ⟨⟩ ⟨⟩
      rintro _ _ G18 ⟨A7, c8, A12, c13, rfl, rfl, hle17, fh9, fh14⟩ K hK
      exact EL.step tabOk rfl (EL.nil (EX.sub' (hK _ _ _ ⟨A7, c8, A12, c13, rfl, rfl, hle17, fh9, fh14⟩) ⟨rfl, rfl, rfl, rfl, rfl, rfl, rfl, rfl, rfl, rfl, rfl, trivial⟩))
    · intro b0' b1' b2' b3' b4' b5' b6' b7'
      rintro ⟨⟩ ⟨⟩ ⟨⟩ ⟨⟩
      rintro _ _ G20 ⟨A7, c8, A12, c13, rfl, rfl, hle19, fh9, fh14⟩ K hK
      exact EL.step tabOk rfl (EL.nil (EX.sub' (hK _ _ _ ⟨A7, c8, A12, c13, rfl, rfl, hle19, fh9, fh14⟩) ⟨rfl, rfl, rfl, rfl, rfl, rfl, rfl, rfl, rfl, rfl, rfl, trivial⟩))
    · intro b0' b1' b2' b3' b4' b5' b6' b7'
      rintro ⟨⟩ ⟨⟩ ⟨⟩ ⟨⟩ ⟨⟩
      rintro _ _ G22 ⟨A7, c8, A12, c13, rfl, rfl, hle21, fh9, fh14⟩ K hK
      have h3 := Rep.mono hle21 h3
      refine EL.call rfl rfl rfl rfl ref08_bucket_enters (fun w hw => ref08_bucket_ok hx6 hw ⟨_, rfl, h3⟩) (fun v23 G26 hle25 hv24 => ?_)
      obtain ⟨A27, c28, rfl, h29⟩ := Sl.open hv24
      exact EL.nil (EX.sub' (hK _ _ _ ⟨A27, c28, A12, c13, rfl, rfl, (GLe.trans hle21 hle25), (fun _ => h29), (fun h => Rep.mono hle25 (fh14 h))⟩) ⟨rfl, rfl, rfl, rfl, rfl, rfl, rfl, rfl, rfl, rfl, rfl, trivial⟩)
    · intro b0' b1' b2' b3' b4' b5' b6' b7'
      rintro ⟨⟩ ⟨⟩ ⟨⟩
      rintro _ _ G31 ⟨A7, c8, A12, c13, rfl, rfl, hle30, fh9, fh14⟩ K hK
      exact EL.step tabOk rfl (EL.nil (EX.sub' (hK _ _ _ ⟨A7, c8, A12, c13, rfl, rfl, hle30, fh9, fh14⟩) ⟨rfl, rfl, rfl, rfl, rfl, rfl, rfl, rfl, rfl, rfl, rfl, trivial⟩))
    · intro b0' b1' b2' b3' b4' b5' b6' b7'
      rintro ⟨⟩ ⟨⟩ ⟨⟩ ⟨⟩
      rintro _ _ G33 ⟨A7, c8, A12, c13, rfl, rfl, hle32, fh9, fh14⟩ K hK
      exact EL.step tabOk rfl (EL.nil (EX.sub' (hK _ _ _ ⟨A7, c8, A12, c13, rfl, rfl, hle32, fh9, fh14⟩) ⟨rfl, rfl, rfl, rfl, rfl, rfl, rfl, rfl, rfl, rfl, rfl, trivial⟩))
    · intro b0' b1' b2' b3' b4' b5' b6' b7'
      rintro ⟨⟩ ⟨⟩ ⟨⟩ ⟨⟩ ⟨⟩
      rintro _ _ G35 ⟨A7, c8, A12, c13, rfl, rfl, hle34, fh9, fh14⟩ K hK
      have h9 := fh9 rfl
      refine EL.call rfl rfl rfl rfl ref08_without_enters (fun w hw => ref08_without_ok hx11 hw h9) (fun v36 G39 hle38 hv37 => ?_)
      obtain ⟨A40, c41, rfl, h42⟩ := Sl.open hv37
      exact EL.nil (EX.sub' (hK _ _ _ ⟨A7, c8, A40, c41, rfl, rfl, (GLe.trans hle34 hle38), (fun h => Rep.mono hle38 (fh9 h)), (fun _ => h42)⟩) ⟨rfl, rfl, rfl, rfl, rfl, rfl, rfl, rfl, rfl, rfl, rfl, trivial⟩)
    · intro b0' b1' b2' b3' b4' b5' b6' b7'
      rintro ⟨⟩ ⟨⟩ ⟨⟩ ⟨⟩ ⟨⟩ ⟨⟩ ⟨⟩ ⟨⟩ ⟨⟩ ⟨⟩
      rintro _ _ G44 ⟨A7, c8, A12, c13, rfl, rfl, hle43, fh9, fh14⟩ K hK
      have h14 := fh14 rfl
      exact EL.step tabOk rfl (EL.nil (EX.sub' (hK _ _ _ ⟨A7, c8, A12, c13, rfl, rfl, hle43, fh9, fh14⟩) ⟨rfl, rfl, rfl, rfl, rfl, rfl, rfl, rfl, rfl, rfl, rfl, trivial⟩))
  rintro _ _ G46 ⟨A7, c8, A12, c13, rfl, rfl, hle45, fh9, fh14⟩
  have h14 := fh14 rfl
  have h3 := Rep.mono hle45 h3
  refine EX.seq (E.seq (E.seq (E.region (EL.run tabOk 5 rfl (EL.nil (EX.seq (E.join (fun env L Γ => ∃ (l47 : (List Entry)) (l51 : (List (List Entry))) (i55 : Int) (i56 : Int) (A48 : Option Addr) (c49 : Nat) (A52 : Option Addr) (c53 : Nat), env = [(2, some (.p 0 0)), (3, some (.p 1 0)), (4, some (.p 2 0)), (6, some (.v (.slice A48 l47.length c49)))] ∧ L = [.box 24 [.v (.slice A1 p0.Buckets.length c2), .v (.int .i64 p0.Slots), .v (.int .i64 p0.Age)], .box 49 [.v (.int .i64 p1.Mac), .v (.int .i64 p1.Port), .v (.int .i64 p1.Seen), .v (.bool p1.Static)], .box 24 [.v (.slice A52 l51.length c53), .v (.int .i64 i55), .v (.int .i64 i56)]] ∧ GLe G46 Γ ∧ R Γ l47 (.slice A48 l47.length c49) ∧ R Γ l51 (.slice A52 l51.length c53) ∧ ref08_put_j1 k p0 p1 l47 l51 i55 i56 = some r) ?_ (fun hj57 => ?_))))))))
  · skip
    rintro _ _ G59 ⟨l47, l51, i55, i56, A48, c49, A52, c53, rfl, rfl, hle58, h50, h54, H⟩
    unfold ref08_put_j1 at H
    have h3 := Rep.mono hle58 h3
    refine EX.seq (E.seq (E.region (EL.run tabOk 3 rfl (EL.nil (EX.seq (E.seq ?_))))))
    obtain ⟨l60, hp61, H⟩ := bind_some H
    obtain ⟨x65, hx66, H⟩ := bind_some H
    refine E.fewer (env' := [(2, some (.p 0 0)), (3, some (.p 1 0)), (4, some (.p 2 0)), (6, some (.v (.slice A48 l47.length c49))), (8, some (.row 3))]) (L' := [.box 24 [.v (.slice A1 p0.Buckets.length c2), .v (.int .i64 p0.Slots), .v (.int .i64 p0.Age)], .box 49 [.v (.int .i64 p1.Mac), .v (.int .i64 p1.Port), .v (.int .i64 p1.Seen), .v (.bool p1.Static)], .box 24 [.v (.slice A52 l51.length c53), .v (.int .i64 i55), .v (.int .i64 i56)], .row 49 4 1 [(.agg #[.int .i64 p1.Mac, .int .i64 p1.Port, .int .i64 p1.Seen, .bool p1.Static])]]) (E.sub' (E.draw mixed (fun (bs : List Bool) (env : Env) (L : List Ent) (Γ : Ghost) => match bs with | [b0', b1', b2', b3', b4', b5', b6', b7', b8'] => ∃ (A62 : Option Addr) (c63 : Nat) (A67 : Option Addr) (c68 : Nat), env = [(35, bif b0' then some (.v (.agg #[.slice A1 p0.Buckets.length c2, .int .i64 p0.Slots, .int .i64 p0.Age])) else none), (36, bif b1' then some (.p 1 0) else none), (37, bif b2' then some (.v (.int .i64 p1.Mac)) else none), (38, bif b3' then (bif b5' then none else some (.row 3)) else none), (39, bif b4' then some (.v (.slice A48 l47.length c49)) else none), (40, bif b5' then some (.v (.slice A62 l60.length c63)) else none), (41, bif b6' then some (.v (.agg #[.slice A67 x65.Buckets.length c68, .int .i64 x65.Slots, .int .i64 x65.Age])) else none), (5, bif b8' then some (.tt) else none), (2, some (.p 0 0)), (3, some (.p 1 0)), (4, some (.p 2 0)), (6, some (.v (.slice A48 l47.length c49))), (8, bif b5' then none else some (.row 3))] ∧ L = [.box 24 [.v (.slice A1 p0.Buckets.length c2), .v (.int .i64 p0.Slots), .v (.int .i64 p0.Age)], .box 49 [.v (.int .i64 p1.Mac), .v (.int .i64 p1.Port), .v (.int .i64 p1.Seen), .v (.bool p1.Static)], (bif b7' then .box 24 [.v (.slice A67 x65.Buckets.length c68), .v (.int .i64 x65.Slots), .v (.int .i64 x65.Age)] else .box 24 [.v (.slice A52 l51.length c53), .v (.int .i64 i55), .v (.int .i64 i56)]), (bif b5' then .gone else .row 49 4 1 [(.agg #[.int .i64 p1.Mac, .int .i64 p1.Port, .int .i64 p1.Seen, .bool p1.Static])])] ∧ GLe G59 Γ ∧ (b5' = true → R Γ l60 (.slice A62 l60.length c63)) ∧ (b6' = true → R Γ x65.Buckets (.slice A67 x65.Buckets.length c68)) | _ => False) ⟨none, 0, none, 0, rfl, rfl, GLe.refl _, (fun h => nomatch h), (fun h => nomatch h)⟩ rfl ?_ ?_) ⟨rfl, rfl, rfl, rfl, rfl, rfl, rfl, rfl, rfl, rfl, rfl, rfl, rfl, trivial⟩) ⟨⟨_, rfl, rfl⟩, ⟨_, rfl, rfl⟩, ⟨_, rfl, rfl⟩, ⟨_, rfl, rfl⟩, ⟨_, rfl, rfl⟩, trivial⟩ ⟨.inr rfl, .inr rfl, .inr rfl, .inr rfl, trivial⟩ rfl rfl
    · refine ⟨?_, ?_, ?_, ?_, ?_, ?_, ?_, ?_, ?_, trivial⟩
      · intro b0' b1' b2' b3' b4' b5' b6' b7' b8'
        rintro ⟨⟩ ⟨⟩ ⟨⟩ ⟨⟩
        rintro _ _ G71 ⟨A62, c63, A67, c68, rfl, rfl, hle70, fh64, fh69⟩ K hK
        have h3 := Rep.mono hle70 h3
        exact EL.step tabOk rfl (EL.nil (EX.sub' (hK _ _ _ ⟨A62, c63, A67, c68, rfl, rfl, hle70, fh64, fh69⟩) ⟨rfl, rfl, rfl, rfl, rfl, rfl, rfl, rfl, rfl, rfl, rfl, rfl, rfl, trivial⟩))
      · intro b0' b1' b2' b3' b4' b5' b6' b7' b8'
        rintro ⟨⟩ ⟨⟩ ⟨⟩ ⟨⟩
        rintro _ _ G73 ⟨A62, c63, A67, c68, rfl, rfl, hle72, fh64, fh69⟩ K hK
        exact EL.step tabOk rfl (EL.nil (EX.sub' (hK _ _ _ ⟨A62, c63, A67, c68, rfl, rfl, hle72, fh64, fh69⟩) ⟨rfl, rfl, rfl, rfl, rfl, rfl, rfl, rfl, rfl, rfl, rfl, rfl, rfl, trivial⟩))
      · intro b0' b1' b2' b3' b4' b5' b6' b7' b8'
        rintro ⟨⟩ ⟨⟩ ⟨⟩ ⟨⟩ ⟨⟩
        rintro _ _ G75 ⟨A62, c63, A67, c68, rfl, rfl, hle74, fh64, fh69⟩ K hK
        exact EL.step tabOk rfl (EL.nil (EX.sub' (hK _ _ _ ⟨A62, c63, A67, c68, rfl, rfl, hle74, fh64, fh69⟩) ⟨rfl, rfl, rfl, rfl, rfl, rfl, rfl, rfl, rfl, rfl, rfl, rfl, rfl, trivial⟩))
      · intro b0' b1' b2' b3' b4' b5' b6' b7' b8'
        rintro ⟨⟩ ⟨⟩ ⟨⟩ ⟨⟩
        rintro _ _ G77 ⟨A62, c63, A67, c68, rfl, rfl, hle76, fh64, fh69⟩ K hK
        exact EL.step tabOk rfl (EL.nil (EX.sub' (hK _ _ _ ⟨A62, c63, A67, c68, rfl, rfl, hle76, fh64, fh69⟩) ⟨rfl, rfl, rfl, rfl, rfl, rfl, rfl, rfl, rfl, rfl, rfl, rfl, rfl, trivial⟩))
      · intro b0' b1' b2' b3' b4' b5' b6' b7' b8'
        rintro ⟨⟩ ⟨⟩ ⟨⟩ ⟨⟩
        rintro _ _ G79 ⟨A62, c63, A67, c68, rfl, rfl, hle78, fh64, fh69⟩ K hK
        have h50 := Rep.mono hle78 h50
        exact EL.step tabOk rfl (EL.nil (EX.sub' (hK _ _ _ ⟨A62, c63, A67, c68, rfl, rfl, hle78, fh64, fh69⟩) ⟨rfl, rfl, rfl, rfl, rfl, rfl, rfl, rfl, rfl, rfl, rfl, rfl, rfl, trivial⟩))
      · intro b0' b1' b2' b3' b4' b5' b6' b7' b8'
        rintro ⟨⟩ ⟨⟩ ⟨⟩ ⟨⟩ ⟨⟩ ⟨⟩
        rintro _ _ G81 ⟨A62, c63, A67, c68, rfl, rfl, hle80, fh64, fh69⟩ K hK
        have h50 := Rep.mono hle80 h50
        cases b0' <;> cases b1' <;> cases b2'
        all_goals refine EL.cat hp61 (.cons rfl All2.nil) h50 tabOk rfl rfl rfl rfl rfl rfl rfl rfl rfl rfl rfl rfl rfl rfl (fun k82 v83 es84 h85 => ?_)
        all_goals refine EL.nil ?_
        all_goals refine EX.pubRow (xs := l60) 3 rfl h85 rfl (fun k86 A87 c88 G91 hle89 h90 => ?_)
        all_goals refine EX.forget 38 ?_
        all_goals refine EX.forget 8 ?_
        all_goals exact EX.sub' (hK _ _ _ ⟨A87, c88, A67, c68, rfl, rfl, (GLe.trans hle80 hle89), (fun _ => h90), (fun h => Rep.mono hle89 (fh69 h))⟩) ⟨rfl, rfl, rfl, rfl, rfl, rfl, rfl, rfl, rfl, rfl, rfl, rfl, rfl, trivial⟩
      · intro b0' b1' b2' b3' b4' b5' b6' b7' b8'
        rintro ⟨⟩ ⟨⟩ ⟨⟩ ⟨⟩ ⟨⟩ ⟨⟩ ⟨⟩
        rintro _ _ G93 ⟨A62, c63, A67, c68, rfl, rfl, hle92, fh64, fh69⟩ K hK
        have h64 := fh64 rfl
        have h3 := Rep.mono hle92 h3
        refine EL.call rfl rfl rfl rfl ref08_with_enters (fun w hw => ref08_with_ok hx66 hw ⟨_, rfl, h3⟩ h64) (fun v94 G97 hle96 hv95 => ?_)
        obtain ⟨v101, rfl, h100⟩ := hv95
        obtain ⟨A98, c99, rfl, h100⟩ := Sl.open h100
        exact EL.nil (EX.sub' (hK _ _ _ ⟨A62, c63, A98, c99, rfl, rfl, (GLe.trans hle92 hle96), (fun h => Rep.mono hle96 (fh64 h)), (fun _ => h100)⟩) ⟨rfl, rfl, rfl, rfl, rfl, rfl, rfl, rfl, rfl, rfl, rfl, rfl, rfl, trivial⟩)
      · intro b0' b1' b2' b3' b4' b5' b6' b7' b8'
        rintro ⟨⟩ ⟨⟩ ⟨⟩ ⟨⟩ ⟨⟩ ⟨⟩ ⟨⟩ ⟨⟩ ⟨⟩ ⟨⟩ ⟨⟩
        rintro _ _ G103 ⟨A62, c63, A67, c68, rfl, rfl, hle102, fh64, fh69⟩ K hK
        have h69 := fh69 rfl
        have h54 := Rep.mono hle102 h54
        exact EL.step tabOk rfl (EL.nil (EX.sub' (hK _ _ _ ⟨A62, c63, A67, c68, rfl, rfl, hle102, fh64, fh69⟩) ⟨rfl, rfl, rfl, rfl, rfl, rfl, rfl, rfl, rfl, rfl, rfl, rfl, rfl, trivial⟩))
      · intro b0' b1' b2' b3' b4' b5' b6' b7' b8'
        rintro ⟨⟩ ⟨⟩ ⟨⟩ ⟨⟩ ⟨⟩ ⟨⟩ ⟨⟩ ⟨⟩ ⟨⟩ ⟨⟩
        rintro _ _ G105 ⟨A62, c63, A67, c68, rfl, rfl, hle104, fh64, fh69⟩ K hK
        exact EL.step tabOk rfl (EL.nil (EX.sub' (hK _ _ _ ⟨A62, c63, A67, c68, rfl, rfl, hle104, fh64, fh69⟩) ⟨rfl, rfl, rfl, rfl, rfl, rfl, rfl, rfl, rfl, rfl, rfl, rfl, rfl, trivial⟩))
    rintro _ _ G107 ⟨A62, c63, A67, c68, rfl, rfl, hle106, fh64, fh69⟩
    have h3 := Rep.mono hle106 h3
    have h69 := fh69 rfl
    exact EX.seq (E.ret (EX.retE H tabOk rfl ⟨_, _, rfl, ⟨_, rfl, h69⟩, rfl⟩))
  · skip
    refine E.cond rfl H (fun hb H => ?_) (fun hb H => ?_)
    · skip
      refine E.seq (E.region (EL.run tabOk 1 rfl ?_))
      obtain ⟨x108, hx109, H⟩ := bind_some H
      refine EL.call rfl rfl rfl rfl ref08_last_enters (fun w hw => ref08_last_ok hx109 hw h14) (fun v112 G111 hle110 hv113 => ?_)
      have h14 := Rep.mono hle110 h14; have h3 := Rep.mono hle110 h3
      obtain rfl : _ = _ := hv113
      refine EL.run tabOk 1 rfl (EL.nil (EX.seq (E.seq (E.seq (E.region (EL.run tabOk 2 rfl (EL.nil (EX.seq (E.cond rfl H (fun hb H => ?_) (fun hb H => ?_))))))))))
      · skip
        exact E.seq (E.region (EL.run tabOk 3 rfl (EL.nil (EX.seq (E.ret (EX.retT (EX.retT (EX.retE H tabOk rfl ⟨_, _, rfl, ⟨_, rfl, h3⟩, rfl⟩))))))))
      · skip
        refine E.skip (EX.seq (E.region (EL.run tabOk 3 rfl ?_)))
        obtain ⟨y114, hy115, H⟩ := bind_some H
        refine EL.index hy115 h14 tabOk rfl rfl rfl rfl rfl rfl rfl rfl (fun b116 o117 u118 hu119 hc120 => ?_)
        obtain rfl : _ = _ := hu119
        refine EL.run tabOk 1 rfl (EL.load (CellsAt.fld (j := 0) hc120 rfl rfl) tabOk rfl rfl rfl rfl rfl rfl ?_)
        obtain ⟨x121, hx122, H⟩ := bind_some H
        refine EL.call rfl rfl rfl rfl ref08_without_enters (fun w hw => ref08_without_ok hx122 hw h14) (fun v125 G124 hle123 hv126 => ?_)
        have h14 := Rep.mono hle123 h14; have h3 := Rep.mono hle123 h3
        obtain ⟨A127, c128, rfl, h129⟩ := Sl.open hv126
        exact EL.run tabOk 1 rfl (EL.nil (EX.fewer (hj57 _ _ _ ⟨x121, [], 0, 0, A127, c128, none, 0, rfl, rfl, (GLe.trans hle110 hle123), h129, (Sl.nil _), H⟩) ⟨⟨_, rfl, rfl⟩, ⟨_, rfl, rfl⟩, ⟨_, rfl, rfl⟩, ⟨_, rfl, rfl⟩, trivial⟩ ⟨.inr rfl, .inr rfl, .inr rfl, trivial⟩ rfl rfl))
    · skip
      exact E.skip (EX.fewer (hj57 _ _ _ ⟨x10, [], 0, 0, A12, c13, none, 0, rfl, rfl, (GLe.refl _), h14, (Sl.nil _), H⟩) ⟨⟨_, rfl, rfl⟩, ⟨_, rfl, rfl⟩, ⟨_, rfl, rfl⟩, ⟨_, rfl, rfl⟩, trivial⟩ ⟨.inr rfl, .inr rfl, .inr rfl, trivial⟩ rfl rfl)
theorem ref08_Learn_enters : Enters Try.prog 19 := ⟨_, Try.func19, rfl, rfl⟩
set_option maxHeartbeats 4000000 in
theorem ref08_Learn_ok {k : Nat} {p0 : Table} {p1 : Int} {p2 : Int} {p3 : Int} {r : Table} (H : ref08_Learn k p0 p1 p2 p3 = some r) {G : Ghost} {w : World} (hG : Holds G w) {v0 : Value} (h0 : R G p0 v0) : Ret Try.prog 19 [v0, .int .i64 p1, .int .i64 p2, .int .i64 p3] w G (fun G v => R G r v) := by
  obtain ⟨v4, rfl, h3⟩ := h0
  obtain ⟨A1, c2, rfl, h3⟩ := Sl.open h3
  unfold ref08_Learn at H
  refine start Try.func19 rfl Try.ntmps19 rfl hG (E.seq (E.region (EL.run tabOk 2 rfl (EL.nil (EX.seq (E.seq (E.region (EL.run tabOk 2 rfl ?_))))))))
  obtain ⟨x5, hx6, H⟩ := bind_some H
  refine EL.call rfl rfl rfl rfl ref08_bucket_enters (fun w hw => ref08_bucket_ok hx6 hw ⟨_, rfl, h3⟩) (fun v9 G8 hle7 hv10 => ?_)
  have h3 := Rep.mono hle7 h3
  obtain ⟨A11, c12, rfl, h13⟩ := Sl.open hv10
  refine EL.run tabOk 1 rfl (EL.nil (EX.seq (E.seq (E.seq (E.region (EL.run tabOk 2 rfl ?_))))))
  obtain ⟨x14, hx15, H⟩ := bind_some H
  refine EL.call rfl rfl rfl rfl ref08_Place_enters (fun w hw => ref08_Place_ok hx15 hw h13) (fun v18 G17 hle16 hv19 => ?_)
  have h13 := Rep.mono hle16 h13; have h3 := Rep.mono hle16 h3
  obtain rfl : _ = _ := hv19
  refine EL.run tabOk 1 rfl (EL.nil (EX.seq (E.seq (E.region (EL.run tabOk 3 rfl (EL.split (s := 21) rfl H (fun hb H => ?_) (fun hb H => ?_)))))))
  · skip
    refine EL.run tabOk 2 rfl ?_
    obtain ⟨y20, hy21, H⟩ := bind_some H
    refine EL.index hy21 h13 tabOk rfl rfl rfl rfl rfl rfl rfl rfl (fun b22 o23 u24 hu25 hc26 => ?_)
    obtain rfl : _ = _ := hu25
    refine EL.run tabOk 1 rfl (EL.load (CellsAt.fld (j := 3) hc26 rfl rfl) tabOk rfl rfl rfl rfl rfl rfl (EL.run tabOk 1 rfl (EL.nil (EX.seq (E.cond rfl H (fun hb H => ?_) (fun hb H => ?_))))))
    · skip
      exact E.seq (E.region (EL.run tabOk 2 rfl (EL.nil (EX.seq (E.ret (EX.retT (EX.retE H tabOk rfl ⟨_, rfl, h3⟩)))))))
    · skip
      refine E.skip (EX.seq (E.seq (E.region (EL.run tabOk 5 rfl ?_))))
      obtain ⟨x27, hx28, H⟩ := bind_some H
      refine EL.call rfl rfl rfl rfl ref08_put_enters (fun w hw => ref08_put_ok hx28 hw ⟨_, rfl, h3⟩) (fun v31 G30 hle29 hv32 => ?_)
      have h3 := Rep.mono hle29 h3
      obtain ⟨u33, u34, rfl, h35, h36⟩ := hv32
      obtain ⟨v40, rfl, h39⟩ := h35
      obtain ⟨A37, c38, rfl, h39⟩ := Sl.open h39
      obtain rfl : _ = _ := h36
      exact EL.run tabOk 6 rfl (EL.nil (EX.seq (E.seq (E.region (EL.run tabOk 2 rfl (EL.nil (EX.seq (E.ret (EX.retE H tabOk rfl ⟨_, rfl, h39⟩)))))))))
  · skip
    refine EL.run tabOk 6 rfl (EL.nil (EX.seq (E.condF rfl (E.skip (EX.seq (E.seq (E.region (EL.run tabOk 5 rfl ?_))))))))
    obtain ⟨x41, hx42, H⟩ := bind_some H
    refine EL.call rfl rfl rfl rfl ref08_put_enters (fun w hw => ref08_put_ok hx42 hw ⟨_, rfl, h3⟩) (fun v45 G44 hle43 hv46 => ?_)
    have h3 := Rep.mono hle43 h3
    obtain ⟨u47, u48, rfl, h49, h50⟩ := hv46
    obtain ⟨v54, rfl, h53⟩ := h49
    obtain ⟨A51, c52, rfl, h53⟩ := Sl.open h53
    obtain rfl : _ = _ := h50
    exact EL.run tabOk 6 rfl (EL.nil (EX.seq (E.seq (E.region (EL.run tabOk 2 rfl (EL.nil (EX.seq (E.ret (EX.retE H tabOk rfl ⟨_, rfl, h53⟩)))))))))
theorem ref08_New_enters : Enters Try.prog 14 := ⟨_, Try.func14, rfl, rfl⟩
set_option maxHeartbeats 4000000 in
theorem ref08_New_ok {k : Nat} {p0 : Int} {p1 : Int} {p2 : Int} {r : Table} (H : ref08_New k p0 p1 p2 = some r) {G : Ghost} {w : World} (hG : Holds G w)  : Ret Try.prog 14 [.int .i64 p0, .int .i64 p1, .int .i64 p2] w G (fun G v => R G r v) := by
  unfold ref08_New at H
  refine start Try.func14 rfl Try.ntmps14 rfl hG (E.seq (E.region (EL.run tabOk 1 rfl (EL.nil (EX.seq (E.seq (E.region (EL.run tabOk 5 rfl (EL.nil (EX.seq (E.seq (E.seq (E.region (EL.run tabOk 1 rfl (EL.nil (EX.seq (E.nilCell 1 0 44 1 rfl rfl rfl (E.join (fun env L Γ => ∃ (i1 : Int) (i2 : Int) (l3 : (List (List Entry))) (es4 : List Value), env = [(6, some (.p 0 0)), (7, some (.p 1 0))] ∧ L = [.box 24 [.v (.slice none 0 0), .v (.int .i64 0), .v (.int .i64 0)], .box 24 [.row 2, .v (.int .i64 i1), .v (.int .i64 i2)], .row 44 1 l3.length es4] ∧ GLe G Γ ∧ Els Γ l3 es4 ∧ ref08_New_j1 k i1 i2 l3 = some r) ?_ (fun hj6 => ?_)))))))))))))))))))
  · skip
    rintro _ _ G8 ⟨i1, i2, l3, es4, rfl, rfl, hle7, h5, H⟩
    unfold ref08_New_j1 at H
    refine EX.seq (E.seq (E.region (EL.run tabOk 2 rfl (EL.nil (EX.seq (E.ret (EX.pubRow (xs := l3) 2 rfl h5 rfl (fun k9 A10 c11 G14 hle12 h13 => ?_))))))))
    exact EX.retE H tabOk rfl ⟨_, rfl, h13⟩
  · skip
    refine E.block (E.fewer (E.loop (fun n env L Γ => ∃ (i15 : Int) (i16 : Int) (i17 : Int) (l18 : (List (List Entry))) (es19 : List Value), env = [(0, some (.v (.int .i64 p0))), (6, some (.p 0 0)), (7, some (.p 1 0)), (8, some (.v (.int .i64 i15)))] ∧ L = [.box 24 [.v (.slice none 0 0), .v (.int .i64 0), .v (.int .i64 0)], .box 24 [.row 2, .v (.int .i64 i16), .v (.int .i64 i17)], .row 44 1 l18.length es19] ∧ GLe G Γ ∧ Els Γ l18 es19 ∧ loopN (fun _ _ _ _ => none) (ref08_New_s2 k p0) n i15 i16 i17 l18 = some r) k ⟨0, p1, p2, [], [], rfl, rfl, GLe.refl _, All2.nil, H⟩ ?_) ⟨⟨_, rfl, rfl⟩, ⟨_, rfl, rfl⟩, ⟨_, rfl, rfl⟩, ⟨_, rfl, rfl⟩, trivial⟩ ⟨.inr rfl, .inr rfl, .inr rfl, trivial⟩ rfl rfl)
    rintro n25 _ _ G23 ⟨i15, i16, i17, l18, es19, rfl, rfl, hle21, h20, H⟩ K hK24
    obtain _ | n25 := n25
    · exact none_ne H
    rw [loopN] at H; unfold ref08_New_s2 at H
    refine E.seq (E.seq (E.region (EL.run tabOk 3 rfl (EL.nil (EX.seq (E.cond rfl H (fun hb H => ?_) (fun hb H => ?_)))))))
    · skip
      refine E.skip (EX.seq (E.seq (E.block (E.region (EL.run tabOk 3 rfl ?_)))))
      obtain ⟨l26, hp27, H⟩ := bind_some H
      refine EL.push hp27 h20 (show R G23 [] (.slice none 0 0) from (Sl.nil _)) tabOk rfl rfl rfl rfl rfl rfl rfl rfl rfl rfl rfl rfl rfl rfl rfl (fun k28 v29 es30 h31 => ?_)
      exact EL.run tabOk 2 rfl (EL.nil (EX.block (EX.seq (E.region (EL.run tabOk 3 rfl (EL.nil (EX.fewer (hK24 n25 _ _ _ (Nat.lt_succ_self _) ⟨wr (i15 + 1), i16, i17, l26, es30, rfl, rfl, hle21, h31, H⟩) ⟨⟨_, rfl, rfl⟩, ⟨_, rfl, rfl⟩, ⟨_, rfl, rfl⟩, ⟨_, rfl, rfl⟩, trivial⟩ ⟨.inr rfl, .inr rfl, .inr rfl, trivial⟩ rfl rfl)))))))
    · skip
      exact E.exit (EX.out (EX.out (EX.hit (EX.fewer (hj6 _ _ _ ⟨i16, i17, l18, es19, rfl, rfl, hle21, h20, H⟩) ⟨⟨_, rfl, rfl⟩, ⟨_, rfl, rfl⟩, trivial⟩ ⟨.inr rfl, .inr rfl, .inr rfl, trivial⟩ rfl rfl))))
end Go.Proofs.Ytafjcdpkanigaaa
