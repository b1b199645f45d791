/- PRINTED by a program of the claim's own: the types of the seat, and Go's functions as Lean functions, each with the proof that a call of it comes to that. -/
import Derived.Test.YtdiclbejalelfaaT2
set_option linter.unusedVariables false
set_option linter.unusedSimpArgs false
set_option maxRecDepth 100000
namespace Go.Proofs.Ytdiclbejalelfaa
open Go.RowKit
open Rep (R)
theorem ref16_Same_enters : Enters Try.prog 16 := ⟨_, Try.func16, rfl, rfl⟩
set_option maxHeartbeats 4000000 in
theorem ref16_Same_ok {k : Nat} {p0 : (List (List Int))} {p1 : (List (List Int))} {r : Bool} (H : ref16_Same k p0 p1 = some r) {G : Ghost} {w : World} (hG : Holds G w) {v0 : Value} (h0 : R G p0 v0) {v1 : Value} (h1 : R G p1 v1) : Ret Try.prog 16 [v0, v1] w G (fun G v => R G r v) := by
  obtain ⟨A1, c2, rfl, h3⟩ := Sl.open h0
  obtain ⟨A4, c5, rfl, h6⟩ := Sl.open h1
  unfold ref16_Same at H
  refine start Try.func16 rfl Try.ntmps16 rfl hG (E.seq (E.region (EL.run tabOk 1 rfl (EL.nil (EX.seq (E.seq (E.seq (E.region (EL.run tabOk 5 rfl (EL.nil (EX.seq (E.cond rfl H (fun hb H => ?_) (fun hb H => ?_)))))))))))))
  · skip
    exact E.seq (E.region (EL.run tabOk 1 rfl (EL.nil (EX.seq (E.ret (EX.retT (EX.retE H tabOk rfl rfl)))))))
  · skip
    refine E.skip (EX.seq (E.seq (E.seq (E.region (EL.run tabOk 3 rfl (EL.nil (EX.seq (E.join (fun env L Γ =>  env = [] ∧ L = [] ∧ GLe G Γ ∧ ref16_Same_j1 k = some r) ?_ (fun hj7 => ?_)))))))))
    · skip
      rintro _ _ G9 ⟨rfl, rfl, hle8, H⟩
      unfold ref16_Same_j1 at H
      exact EX.seq (E.seq (E.region (EL.run tabOk 1 rfl (EL.nil (EX.seq (E.ret (EX.retE H tabOk rfl rfl)))))))
    · skip
      refine E.block (E.fewer (E.loop (fun n env L Γ => ∃ (i10 : Int), env = [(0, some (.v (.slice A1 p0.length c2))), (1, some (.v (.slice A4 p1.length c5))), (13, some (.v (.int .i64 (p0.length : Int)))), (14, some (.v (.int .i64 i10)))] ∧ L = [] ∧ GLe G Γ ∧ loopN (fun _ => none) (ref16_Same_s4 k p0 p1) n i10 = some r) k ⟨0, rfl, rfl, GLe.refl _, H⟩ ?_) ⟨⟨_, rfl, rfl⟩, ⟨_, rfl, rfl⟩, ⟨_, rfl, rfl⟩, ⟨_, rfl, rfl⟩, trivial⟩ trivial rfl rfl)
      rintro n15 _ _ G13 ⟨i10, rfl, rfl, hle11, H⟩ K hK14
      obtain _ | n15 := n15
      · exact none_ne H
      rw [loopN] at H; unfold ref16_Same_s4 at H
      have h3 := Rep.mono hle11 h3; have h6 := Rep.mono hle11 h6
      refine E.seq (E.region (EL.run tabOk 1 rfl (EL.nil (EX.seq (E.seq (E.cond rfl H (fun hb H => ?_) (fun hb H => ?_)))))))
      · skip
        refine E.skip (EX.seq (E.seq (E.block (E.seq (E.region (EL.run tabOk 2 rfl (EL.nil (EX.seq (E.seq (E.seq ?_))))))))))
        obtain ⟨y16, hy17, H⟩ := bind_some H; obtain ⟨g25, g26, g27, g28⟩ := idx_some hy17; obtain ⟨b18, o19, u20, hA21, hn24, hu22, hc23⟩ := idx_at hy17 h3
        obtain ⟨A29, c30, rfl, h31⟩ := Sl.open hu22
        obtain ⟨y32, hy33, H⟩ := bind_some H; obtain ⟨g41, g42, g43, g44⟩ := idx_some hy33; obtain ⟨b34, o35, u36, hA37, hn40, hu38, hc39⟩ := idx_at hy33 h6
        obtain ⟨A45, c46, rfl, h47⟩ := Sl.open hu38
        refine E.fewer (env' := [(0, some (.v (.slice A1 p0.length c2))), (1, some (.v (.slice A4 p1.length c5))), (5, some (.v (.int .i64 i10))), (13, some (.v (.int .i64 (p0.length : Int)))), (14, some (.v (.int .i64 i10)))]) (L' := []) (E.sub' ((E.draw mixed (fun (bs : List Bool) (env : Env) (L : List Ent) (Γ : Ghost) => match bs with | [b0', b1', b2', b3', b4', b5', b6', b7', b8', b9', b10'] =>  env = [(17, bif b0' then some (.v (.slice A1 p0.length c2)) else none), (18, bif b1' then some (.v (.int .i64 i10)) else none), (19, bif b2' then some (.v (.pointer (some ⟨b18, o19 + (i10 : Int).toNat * 1, none⟩))) else none), (20, bif b3' then some (.v (.slice A29 y16.length c30)) else none), (21, bif b4' then some (.v (.int .i64 (y16.length : Int))) else none), (22, bif b5' then some (.v (.slice A4 p1.length c5)) else none), (23, bif b6' then some (.v (.int .i64 i10)) else none), (24, bif b7' then some (.v (.pointer (some ⟨b34, o35 + (i10 : Int).toNat * 1, none⟩))) else none), (25, bif b8' then some (.v (.slice A45 y32.length c46)) else none), (26, bif b9' then some (.v (.int .i64 (y32.length : Int))) else none), (27, bif b10' then some (.v (.bool ((y16.length : Int) != (y32.length : Int)))) else none), (0, some (.v (.slice A1 p0.length c2))), (1, some (.v (.slice A4 p1.length c5))), (5, some (.v (.int .i64 i10))), (13, some (.v (.int .i64 (p0.length : Int)))), (14, some (.v (.int .i64 i10)))] ∧ L = [] ∧ GLe G13 Γ | _ => False) ⟨rfl, rfl, GLe.refl _⟩ rfl ?_ ?_)) ⟨rfl, rfl, rfl, rfl, rfl, rfl, rfl, rfl, rfl, rfl, rfl, rfl, rfl, rfl, rfl, rfl, trivial⟩) ⟨⟨_, rfl, rfl⟩, ⟨_, rfl, rfl⟩, ⟨_, rfl, rfl⟩, ⟨_, rfl, rfl⟩, ⟨_, rfl, rfl⟩, trivial⟩ trivial rfl rfl
        · refine ⟨?_, ?_, ?_, ?_, ?_, ?_, ?_, ?_, ?_, ?_, ?_, trivial⟩
          · intro b0' b1' b2' b3' b4' b5' b6' b7' b8' b9' b10'
            rintro ⟨⟩ ⟨⟩
            rintro _ _ G49 ⟨rfl, rfl, hle48⟩ K hK
            have h3 := Rep.mono hle48 h3
            exact EL.step tabOk rfl (EL.nil (EX.sub' (hK _ _ _ ⟨rfl, rfl, hle48⟩) ⟨rfl, rfl, rfl, rfl, rfl, rfl, rfl, rfl, rfl, rfl, rfl, rfl, rfl, rfl, rfl, rfl, trivial⟩))
          · intro b0' b1' b2' b3' b4' b5' b6' b7' b8' b9' b10'
            rintro ⟨⟩ ⟨⟩
            rintro _ _ G51 ⟨rfl, rfl, hle50⟩ K hK
            exact EL.step tabOk rfl (EL.nil (EX.sub' (hK _ _ _ ⟨rfl, rfl, hle50⟩) ⟨rfl, rfl, rfl, rfl, rfl, rfl, rfl, rfl, rfl, rfl, rfl, rfl, rfl, rfl, rfl, rfl, trivial⟩))
          · intro b0' b1' b2' b3' b4' b5' b6' b7' b8' b9' b10'
            rintro ⟨⟩ ⟨⟩ ⟨⟩ ⟨⟩
            rintro _ _ G53 ⟨rfl, rfl, hle52⟩ K hK
            have h3 := Rep.mono hle52 h3
            exact EL.indexAt (b := b18) (o' := o19) (n := p0.length) (c := c2) g25 g27 tabOk rfl rfl rfl (by rw [← hA21]; rfl) rfl rfl rfl (EL.nil (EX.sub' (hK _ _ _ ⟨rfl, rfl, hle52⟩) ⟨rfl, rfl, rfl, rfl, rfl, rfl, rfl, rfl, rfl, rfl, rfl, rfl, rfl, rfl, rfl, rfl, trivial⟩))
          · intro b0' b1' b2' b3' b4' b5' b6' b7' b8' b9' b10'
            rintro ⟨⟩ ⟨⟩ ⟨⟩
            rintro _ _ G55 ⟨rfl, rfl, hle54⟩ K hK
            have hc23 := CellsAt.mono hle54 hc23
            have h31 := Rep.mono hle54 h31
            exact EL.load hc23 tabOk rfl rfl rfl rfl rfl rfl (EL.nil (EX.sub' (hK _ _ _ ⟨rfl, rfl, hle54⟩) ⟨rfl, rfl, rfl, rfl, rfl, rfl, rfl, rfl, rfl, rfl, rfl, rfl, rfl, rfl, rfl, rfl, trivial⟩))
          · intro b0' b1' b2' b3' b4' b5' b6' b7' b8' b9' b10'
            rintro ⟨⟩ ⟨⟩ ⟨⟩
            rintro _ _ G57 ⟨rfl, rfl, hle56⟩ K hK
            have h31 := Rep.mono hle56 h31
            exact EL.step tabOk rfl (EL.nil (EX.sub' (hK _ _ _ ⟨rfl, rfl, hle56⟩) ⟨rfl, rfl, rfl, rfl, rfl, rfl, rfl, rfl, rfl, rfl, rfl, rfl, rfl, rfl, rfl, rfl, trivial⟩))
          · intro b0' b1' b2' b3' b4' b5' b6' b7' b8' b9' b10'
            rintro ⟨⟩ ⟨⟩
            rintro _ _ G59 ⟨rfl, rfl, hle58⟩ K hK
            have h6 := Rep.mono hle58 h6
            exact EL.step tabOk rfl (EL.nil (EX.sub' (hK _ _ _ ⟨rfl, rfl, hle58⟩) ⟨rfl, rfl, rfl, rfl, rfl, rfl, rfl, rfl, rfl, rfl, rfl, rfl, rfl, rfl, rfl, rfl, trivial⟩))
          · intro b0' b1' b2' b3' b4' b5' b6' b7' b8' b9' b10'
            rintro ⟨⟩ ⟨⟩
            rintro _ _ G61 ⟨rfl, rfl, hle60⟩ K hK
            exact EL.step tabOk rfl (EL.nil (EX.sub' (hK _ _ _ ⟨rfl, rfl, hle60⟩) ⟨rfl, rfl, rfl, rfl, rfl, rfl, rfl, rfl, rfl, rfl, rfl, rfl, rfl, rfl, rfl, rfl, trivial⟩))
          · intro b0' b1' b2' b3' b4' b5' b6' b7' b8' b9' b10'
            rintro ⟨⟩ ⟨⟩ ⟨⟩ ⟨⟩
            rintro _ _ G63 ⟨rfl, rfl, hle62⟩ K hK
            have h6 := Rep.mono hle62 h6
            exact EL.indexAt (b := b34) (o' := o35) (n := p1.length) (c := c5) g41 g43 tabOk rfl rfl rfl (by rw [← hA37]; rfl) rfl rfl rfl (EL.nil (EX.sub' (hK _ _ _ ⟨rfl, rfl, hle62⟩) ⟨rfl, rfl, rfl, rfl, rfl, rfl, rfl, rfl, rfl, rfl, rfl, rfl, rfl, rfl, rfl, rfl, trivial⟩))
          · intro b0' b1' b2' b3' b4' b5' b6' b7' b8' b9' b10'
            rintro ⟨⟩ ⟨⟩ ⟨⟩
            rintro _ _ G65 ⟨rfl, rfl, hle64⟩ K hK
            have hc39 := CellsAt.mono hle64 hc39
            have h47 := Rep.mono hle64 h47
            exact EL.load hc39 tabOk rfl rfl rfl rfl rfl rfl (EL.nil (EX.sub' (hK _ _ _ ⟨rfl, rfl, hle64⟩) ⟨rfl, rfl, rfl, rfl, rfl, rfl, rfl, rfl, rfl, rfl, rfl, rfl, rfl, rfl, rfl, rfl, trivial⟩))
          · intro b0' b1' b2' b3' b4' b5' b6' b7' b8' b9' b10'
            rintro ⟨⟩ ⟨⟩ ⟨⟩
            rintro _ _ G67 ⟨rfl, rfl, hle66⟩ K hK
            have h47 := Rep.mono hle66 h47
            exact EL.step tabOk rfl (EL.nil (EX.sub' (hK _ _ _ ⟨rfl, rfl, hle66⟩) ⟨rfl, rfl, rfl, rfl, rfl, rfl, rfl, rfl, rfl, rfl, rfl, rfl, rfl, rfl, rfl, rfl, trivial⟩))
          · intro b0' b1' b2' b3' b4' b5' b6' b7' b8' b9' b10'
            rintro ⟨⟩ ⟨⟩ ⟨⟩
            rintro _ _ G69 ⟨rfl, rfl, hle68⟩ K hK
            exact EL.step tabOk rfl (EL.nil (EX.sub' (hK _ _ _ ⟨rfl, rfl, hle68⟩) ⟨rfl, rfl, rfl, rfl, rfl, rfl, rfl, rfl, rfl, rfl, rfl, rfl, rfl, rfl, rfl, rfl, trivial⟩))
        rintro _ _ G71 ⟨rfl, rfl, hle70⟩
        have h3 := Rep.mono hle70 h3
        have h6 := Rep.mono hle70 h6
        refine EX.seq (E.cond rfl H (fun hb H => ?_) (fun hb H => ?_))
        · skip
          exact E.seq (E.region (EL.run tabOk 1 rfl (EL.nil (EX.seq (E.ret (EX.retT (EX.retB (EX.retT (EX.retT (EX.retB (EX.retT (EX.retE H tabOk rfl rfl))))))))))))
        · skip
          refine E.skip (EX.seq (E.seq (E.region (EL.run tabOk 2 rfl ?_))))
          obtain ⟨y72, hy73, H⟩ := bind_some H
          refine EL.index hy73 h3 tabOk rfl rfl rfl rfl rfl rfl rfl rfl (fun b74 o75 u76 hu77 hc78 => ?_)
          obtain ⟨A79, c80, rfl, h81⟩ := Sl.open hu77
          refine EL.load hc78 tabOk rfl rfl rfl rfl rfl rfl (EL.run tabOk 2 rfl (EL.nil (EX.seq (E.join (fun env L Γ =>  env = [(0, some (.v (.slice A1 p0.length c2))), (1, some (.v (.slice A4 p1.length c5))), (13, some (.v (.int .i64 (p0.length : Int)))), (14, some (.v (.int .i64 i10)))] ∧ L = [] ∧ GLe G71 Γ ∧ ref16_Same_j2 k i10 (loopN (fun _ => none) (ref16_Same_s4 k p0 p1) n15) = some r) ?_ (fun hj82 => ?_)))))
          · skip
            rintro _ _ G84 ⟨rfl, rfl, hle83, H⟩
            unfold ref16_Same_j2 at H
            have h3 := Rep.mono hle83 h3; have h6 := Rep.mono hle83 h6
            exact EX.block (EX.seq (E.region (EL.run tabOk 2 rfl (EL.nil (EX.fewer (hK14 n15 _ _ _ (Nat.lt_succ_self _) ⟨wr (i10 + 1), rfl, rfl, (GLe.trans (GLe.trans hle11 hle70) hle83), H⟩) ⟨⟨_, rfl, rfl⟩, ⟨_, rfl, rfl⟩, ⟨_, rfl, rfl⟩, ⟨_, rfl, rfl⟩, trivial⟩ trivial rfl rfl)))))
          · skip
            refine E.block (E.fewer (E.loop (fun n env L Γ => ∃ (i85 : Int), env = [(0, some (.v (.slice A1 p0.length c2))), (1, some (.v (.slice A4 p1.length c5))), (5, some (.v (.int .i64 i10))), (13, some (.v (.int .i64 (p0.length : Int)))), (14, some (.v (.int .i64 i10))), (32, some (.v (.int .i64 (y72.length : Int)))), (33, some (.v (.int .i64 i85)))] ∧ L = [] ∧ GLe G71 Γ ∧ loopN (fun _ => none) (ref16_Same_s3 k p0 p1 i10 (loopN (fun _ => none) (ref16_Same_s4 k p0 p1) n15) y72) n i85 = some r) k ⟨0, rfl, rfl, GLe.refl _, H⟩ ?_) ⟨⟨_, rfl, rfl⟩, ⟨_, rfl, rfl⟩, ⟨_, rfl, rfl⟩, ⟨_, rfl, rfl⟩, ⟨_, rfl, rfl⟩, ⟨_, rfl, rfl⟩, ⟨_, rfl, rfl⟩, trivial⟩ trivial rfl rfl)
            rintro n90 _ _ G88 ⟨i85, rfl, rfl, hle86, H⟩ K hK89
            obtain _ | n90 := n90
            · exact none_ne H
            rw [loopN] at H; unfold ref16_Same_s3 at H
            have h3 := Rep.mono hle86 h3; have h6 := Rep.mono hle86 h6
            refine E.seq (E.region (EL.run tabOk 1 rfl (EL.nil (EX.seq (E.seq (E.cond rfl H (fun hb H => ?_) (fun hb H => ?_)))))))
            · skip
              refine E.skip (EX.seq (E.seq (E.block (E.seq (E.region (EL.run tabOk 2 rfl (EL.nil (EX.seq (E.seq ?_)))))))))
              obtain ⟨y91, hy92, H⟩ := bind_some H; obtain ⟨g100, g101, g102, g103⟩ := idx_some hy92; obtain ⟨b93, o94, u95, hA96, hn99, hu97, hc98⟩ := idx_at hy92 h3
              obtain ⟨A104, c105, rfl, h106⟩ := Sl.open hu97
              obtain ⟨y107, hy108, H⟩ := bind_some H; obtain ⟨g116, g117, g118, g119⟩ := idx_some hy108; obtain ⟨b109, o110, u111, hA112, hn115, hu113, hc114⟩ := idx_at hy108 h106
              obtain rfl : _ = _ := hu113
              obtain ⟨y120, hy121, H⟩ := bind_some H; obtain ⟨g129, g130, g131, g132⟩ := idx_some hy121; obtain ⟨b122, o123, u124, hA125, hn128, hu126, hc127⟩ := idx_at hy121 h6
              obtain ⟨A133, c134, rfl, h135⟩ := Sl.open hu126
              obtain ⟨y136, hy137, H⟩ := bind_some H; obtain ⟨g145, g146, g147, g148⟩ := idx_some hy137; obtain ⟨b138, o139, u140, hA141, hn144, hu142, hc143⟩ := idx_at hy137 h135
              obtain rfl : _ = _ := hu142
              refine E.fewer (env' := [(0, some (.v (.slice A1 p0.length c2))), (1, some (.v (.slice A4 p1.length c5))), (5, some (.v (.int .i64 i10))), (6, some (.v (.int .i64 i85))), (13, some (.v (.int .i64 (p0.length : Int)))), (14, some (.v (.int .i64 i10))), (32, some (.v (.int .i64 (y72.length : Int)))), (33, some (.v (.int .i64 i85)))]) (L' := []) (E.sub' ((E.draw mixed (fun (bs : List Bool) (env : Env) (L : List Ent) (Γ : Ghost) => match bs with | [b0', b1', b2', b3', b4', b5', b6', b7', b8', b9', b10', b11', b12', b13', b14'] =>  env = [(36, bif b0' then some (.v (.slice A1 p0.length c2)) else none), (37, bif b1' then some (.v (.int .i64 i10)) else none), (38, bif b2' then some (.v (.pointer (some ⟨b93, o94 + (i10 : Int).toNat * 1, none⟩))) else none), (39, bif b3' then some (.v (.slice A104 y91.length c105)) else none), (40, bif b4' then some (.v (.int .i64 i85)) else none), (41, bif b5' then some (.v (.pointer (some ⟨b109, o110 + (i85 : Int).toNat * 1, none⟩))) else none), (42, bif b6' then some (.v (.int .i64 y107)) else none), (43, bif b7' then some (.v (.slice A4 p1.length c5)) else none), (44, bif b8' then some (.v (.int .i64 i10)) else none), (45, bif b9' then some (.v (.pointer (some ⟨b122, o123 + (i10 : Int).toNat * 1, none⟩))) else none), (46, bif b10' then some (.v (.slice A133 y120.length c134)) else none), (47, bif b11' then some (.v (.int .i64 i85)) else none), (48, bif b12' then some (.v (.pointer (some ⟨b138, o139 + (i85 : Int).toNat * 1, none⟩))) else none), (49, bif b13' then some (.v (.int .i64 y136)) else none), (50, bif b14' then some (.v (.bool (y107 != y136))) else none), (0, some (.v (.slice A1 p0.length c2))), (1, some (.v (.slice A4 p1.length c5))), (5, some (.v (.int .i64 i10))), (6, some (.v (.int .i64 i85))), (13, some (.v (.int .i64 (p0.length : Int)))), (14, some (.v (.int .i64 i10))), (32, some (.v (.int .i64 (y72.length : Int)))), (33, some (.v (.int .i64 i85)))] ∧ L = [] ∧ GLe G88 Γ | _ => False) ⟨rfl, rfl, GLe.refl _⟩ rfl ?_ ?_)) ⟨rfl, rfl, rfl, rfl, rfl, rfl, rfl, rfl, rfl, rfl, rfl, rfl, rfl, rfl, rfl, rfl, rfl, rfl, rfl, rfl, rfl, rfl, rfl, trivial⟩) ⟨⟨_, rfl, rfl⟩, ⟨_, rfl, rfl⟩, ⟨_, rfl, rfl⟩, ⟨_, rfl, rfl⟩, ⟨_, rfl, rfl⟩, ⟨_, rfl, rfl⟩, ⟨_, rfl, rfl⟩, ⟨_, rfl, rfl⟩, trivial⟩ trivial rfl rfl
              · refine ⟨?_, ?_, ?_, ?_, ?_, ?_, ?_, ?_, ?_, ?_, ?_, ?_, ?_, ?_, ?_, trivial⟩
                · intro b0' b1' b2' b3' b4' b5' b6' b7' b8' b9' b10' b11' b12' b13' b14'
                  rintro ⟨⟩ ⟨⟩
                  rintro _ _ G150 ⟨rfl, rfl, hle149⟩ K hK
                  have h3 := Rep.mono hle149 h3
                  exact EL.step tabOk rfl (EL.nil (EX.sub' (hK _ _ _ ⟨rfl, rfl, hle149⟩) ⟨rfl, rfl, rfl, rfl, rfl, rfl, rfl, rfl, rfl, rfl, rfl, rfl, rfl, rfl, rfl, rfl, rfl, rfl, rfl, rfl, rfl, rfl, rfl, trivial⟩))
                · intro b0' b1' b2' b3' b4' b5' b6' b7' b8' b9' b10' b11' b12' b13' b14'
                  rintro ⟨⟩ ⟨⟩
                  rintro _ _ G152 ⟨rfl, rfl, hle151⟩ K hK
                  exact EL.step tabOk rfl (EL.nil (EX.sub' (hK _ _ _ ⟨rfl, rfl, hle151⟩) ⟨rfl, rfl, rfl, rfl, rfl, rfl, rfl, rfl, rfl, rfl, rfl, rfl, rfl, rfl, rfl, rfl, rfl, rfl, rfl, rfl, rfl, rfl, rfl, trivial⟩))
                · intro b0' b1' b2' b3' b4' b5' b6' b7' b8' b9' b10' b11' b12' b13' b14'
                  rintro ⟨⟩ ⟨⟩ ⟨⟩ ⟨⟩
                  rintro _ _ G154 ⟨rfl, rfl, hle153⟩ K hK
                  have h3 := Rep.mono hle153 h3
                  exact EL.indexAt (b := b93) (o' := o94) (n := p0.length) (c := c2) g100 g102 tabOk rfl rfl rfl (by rw [← hA96]; rfl) rfl rfl rfl (EL.nil (EX.sub' (hK _ _ _ ⟨rfl, rfl, hle153⟩) ⟨rfl, rfl, rfl, rfl, rfl, rfl, rfl, rfl, rfl, rfl, rfl, rfl, rfl, rfl, rfl, rfl, rfl, rfl, rfl, rfl, rfl, rfl, rfl, trivial⟩))
                · intro b0' b1' b2' b3' b4' b5' b6' b7' b8' b9' b10' b11' b12' b13' b14'
                  rintro ⟨⟩ ⟨⟩ ⟨⟩
                  rintro _ _ G156 ⟨rfl, rfl, hle155⟩ K hK
                  have hc98 := CellsAt.mono hle155 hc98
                  have h106 := Rep.mono hle155 h106
                  exact EL.load hc98 tabOk rfl rfl rfl rfl rfl rfl (EL.nil (EX.sub' (hK _ _ _ ⟨rfl, rfl, hle155⟩) ⟨rfl, rfl, rfl, rfl, rfl, rfl, rfl, rfl, rfl, rfl, rfl, rfl, rfl, rfl, rfl, rfl, rfl, rfl, rfl, rfl, rfl, rfl, rfl, trivial⟩))
                · intro b0' b1' b2' b3' b4' b5' b6' b7' b8' b9' b10' b11' b12' b13' b14'
                  rintro ⟨⟩ ⟨⟩
                  rintro _ _ G158 ⟨rfl, rfl, hle157⟩ K hK
                  exact EL.step tabOk rfl (EL.nil (EX.sub' (hK _ _ _ ⟨rfl, rfl, hle157⟩) ⟨rfl, rfl, rfl, rfl, rfl, rfl, rfl, rfl, rfl, rfl, rfl, rfl, rfl, rfl, rfl, rfl, rfl, rfl, rfl, rfl, rfl, rfl, rfl, trivial⟩))
                · intro b0' b1' b2' b3' b4' b5' b6' b7' b8' b9' b10' b11' b12' b13' b14'
                  rintro ⟨⟩ ⟨⟩ ⟨⟩ ⟨⟩
                  rintro _ _ G160 ⟨rfl, rfl, hle159⟩ K hK
                  have h106 := Rep.mono hle159 h106
                  exact EL.indexAt (b := b109) (o' := o110) (n := y91.length) (c := c105) g116 g118 tabOk rfl rfl rfl (by rw [← hA112]; rfl) rfl rfl rfl (EL.nil (EX.sub' (hK _ _ _ ⟨rfl, rfl, hle159⟩) ⟨rfl, rfl, rfl, rfl, rfl, rfl, rfl, rfl, rfl, rfl, rfl, rfl, rfl, rfl, rfl, rfl, rfl, rfl, rfl, rfl, rfl, rfl, rfl, trivial⟩))
                · intro b0' b1' b2' b3' b4' b5' b6' b7' b8' b9' b10' b11' b12' b13' b14'
                  rintro ⟨⟩ ⟨⟩ ⟨⟩
                  rintro _ _ G162 ⟨rfl, rfl, hle161⟩ K hK
                  have hc114 := CellsAt.mono hle161 hc114
                  exact EL.load hc114 tabOk rfl rfl rfl rfl rfl rfl (EL.nil (EX.sub' (hK _ _ _ ⟨rfl, rfl, hle161⟩) ⟨rfl, rfl, rfl, rfl, rfl, rfl, rfl, rfl, rfl, rfl, rfl, rfl, rfl, rfl, rfl, rfl, rfl, rfl, rfl, rfl, rfl, rfl, rfl, trivial⟩))
                · intro b0' b1' b2' b3' b4' b5' b6' b7' b8' b9' b10' b11' b12' b13' b14'
                  rintro ⟨⟩ ⟨⟩
                  rintro _ _ G164 ⟨rfl, rfl, hle163⟩ K hK
                  have h6 := Rep.mono hle163 h6
                  exact EL.step tabOk rfl (EL.nil (EX.sub' (hK _ _ _ ⟨rfl, rfl, hle163⟩) ⟨rfl, rfl, rfl, rfl, rfl, rfl, rfl, rfl, rfl, rfl, rfl, rfl, rfl, rfl, rfl, rfl, rfl, rfl, rfl, rfl, rfl, rfl, rfl, trivial⟩))
                · intro b0' b1' b2' b3' b4' b5' b6' b7' b8' b9' b10' b11' b12' b13' b14'
                  rintro ⟨⟩ ⟨⟩
                  rintro _ _ G166 ⟨rfl, rfl, hle165⟩ K hK
                  exact EL.step tabOk rfl (EL.nil (EX.sub' (hK _ _ _ ⟨rfl, rfl, hle165⟩) ⟨rfl, rfl, rfl, rfl, rfl, rfl, rfl, rfl, rfl, rfl, rfl, rfl, rfl, rfl, rfl, rfl, rfl, rfl, rfl, rfl, rfl, rfl, rfl, trivial⟩))
                · intro b0' b1' b2' b3' b4' b5' b6' b7' b8' b9' b10' b11' b12' b13' b14'
                  rintro ⟨⟩ ⟨⟩ ⟨⟩ ⟨⟩
                  rintro _ _ G168 ⟨rfl, rfl, hle167⟩ K hK
                  have h6 := Rep.mono hle167 h6
                  exact EL.indexAt (b := b122) (o' := o123) (n := p1.length) (c := c5) g129 g131 tabOk rfl rfl rfl (by rw [← hA125]; rfl) rfl rfl rfl (EL.nil (EX.sub' (hK _ _ _ ⟨rfl, rfl, hle167⟩) ⟨rfl, rfl, rfl, rfl, rfl, rfl, rfl, rfl, rfl, rfl, rfl, rfl, rfl, rfl, rfl, rfl, rfl, rfl, rfl, rfl, rfl, rfl, rfl, trivial⟩))
                · intro b0' b1' b2' b3' b4' b5' b6' b7' b8' b9' b10' b11' b12' b13' b14'
                  rintro ⟨⟩ ⟨⟩ ⟨⟩
                  rintro _ _ G170 ⟨rfl, rfl, hle169⟩ K hK
                  have hc127 := CellsAt.mono hle169 hc127
                  have h135 := Rep.mono hle169 h135
                  exact EL.load hc127 tabOk rfl rfl rfl rfl rfl rfl (EL.nil (EX.sub' (hK _ _ _ ⟨rfl, rfl, hle169⟩) ⟨rfl, rfl, rfl, rfl, rfl, rfl, rfl, rfl, rfl, rfl, rfl, rfl, rfl, rfl, rfl, rfl, rfl, rfl, rfl, rfl, rfl, rfl, rfl, trivial⟩))
                · intro b0' b1' b2' b3' b4' b5' b6' b7' b8' b9' b10' b11' b12' b13' b14'
                  rintro ⟨⟩ ⟨⟩
                  rintro _ _ G172 ⟨rfl, rfl, hle171⟩ K hK
                  exact EL.step tabOk rfl (EL.nil (EX.sub' (hK _ _ _ ⟨rfl, rfl, hle171⟩) ⟨rfl, rfl, rfl, rfl, rfl, rfl, rfl, rfl, rfl, rfl, rfl, rfl, rfl, rfl, rfl, rfl, rfl, rfl, rfl, rfl, rfl, rfl, rfl, trivial⟩))
                · intro b0' b1' b2' b3' b4' b5' b6' b7' b8' b9' b10' b11' b12' b13' b14'
                  rintro ⟨⟩ ⟨⟩ ⟨⟩ ⟨⟩
                  rintro _ _ G174 ⟨rfl, rfl, hle173⟩ K hK
                  have h135 := Rep.mono hle173 h135
                  exact EL.indexAt (b := b138) (o' := o139) (n := y120.length) (c := c134) g145 g147 tabOk rfl rfl rfl (by rw [← hA141]; rfl) rfl rfl rfl (EL.nil (EX.sub' (hK _ _ _ ⟨rfl, rfl, hle173⟩) ⟨rfl, rfl, rfl, rfl, rfl, rfl, rfl, rfl, rfl, rfl, rfl, rfl, rfl, rfl, rfl, rfl, rfl, rfl, rfl, rfl, rfl, rfl, rfl, trivial⟩))
                · intro b0' b1' b2' b3' b4' b5' b6' b7' b8' b9' b10' b11' b12' b13' b14'
                  rintro ⟨⟩ ⟨⟩ ⟨⟩
                  rintro _ _ G176 ⟨rfl, rfl, hle175⟩ K hK
                  have hc143 := CellsAt.mono hle175 hc143
                  exact EL.load hc143 tabOk rfl rfl rfl rfl rfl rfl (EL.nil (EX.sub' (hK _ _ _ ⟨rfl, rfl, hle175⟩) ⟨rfl, rfl, rfl, rfl, rfl, rfl, rfl, rfl, rfl, rfl, rfl, rfl, rfl, rfl, rfl, rfl, rfl, rfl, rfl, rfl, rfl, rfl, rfl, trivial⟩))
                · intro b0' b1' b2' b3' b4' b5' b6' b7' b8' b9' b10' b11' b12' b13' b14'
                  rintro ⟨⟩ ⟨⟩ ⟨⟩
                  rintro _ _ G178 ⟨rfl, rfl, hle177⟩ K hK
                  exact EL.step tabOk rfl (EL.nil (EX.sub' (hK _ _ _ ⟨rfl, rfl, hle177⟩) ⟨rfl, rfl, rfl, rfl, rfl, rfl, rfl, rfl, rfl, rfl, rfl, rfl, rfl, rfl, rfl, rfl, rfl, rfl, rfl, rfl, rfl, rfl, rfl, trivial⟩))
              rintro _ _ G180 ⟨rfl, rfl, hle179⟩
              have h3 := Rep.mono hle179 h3
              have h6 := Rep.mono hle179 h6
              refine EX.seq (E.cond rfl H (fun hb H => ?_) (fun hb H => ?_))
              · skip
                exact E.seq (E.region (EL.run tabOk 1 rfl (EL.nil (EX.seq (E.ret (EX.retB (EX.retT (EX.retT (EX.retB (EX.retB (EX.retT (EX.retT (EX.retB (EX.retT (EX.retE H tabOk rfl rfl)))))))))))))))
              · skip
                exact E.skip (EX.block (EX.seq (E.region (EL.run tabOk 2 rfl (EL.nil (EX.fewer (hK89 n90 _ _ _ (Nat.lt_succ_self _) ⟨wr (i85 + 1), rfl, rfl, (GLe.trans hle86 hle179), H⟩) ⟨⟨_, rfl, rfl⟩, ⟨_, rfl, rfl⟩, ⟨_, rfl, rfl⟩, ⟨_, rfl, rfl⟩, ⟨_, rfl, rfl⟩, ⟨_, rfl, rfl⟩, ⟨_, rfl, rfl⟩, trivial⟩ trivial rfl rfl))))))
            · skip
              exact E.exit (EX.out (EX.out (EX.hit (EX.fewer (hj82 _ _ _ ⟨rfl, rfl, hle86, H⟩) ⟨⟨_, rfl, rfl⟩, ⟨_, rfl, rfl⟩, ⟨_, rfl, rfl⟩, ⟨_, rfl, rfl⟩, trivial⟩ trivial rfl rfl))))
      · skip
        exact E.exit (EX.out (EX.out (EX.hit (EX.fewer (hj7 _ _ _ ⟨rfl, rfl, hle11, H⟩) trivial trivial rfl rfl))))
theorem law16_alive_enters : Enters Try.prog 8 := ⟨_, Try.func8, rfl, rfl⟩
set_option maxHeartbeats 4000000 in
theorem law16_alive_ok {k : Nat}  {r : Bool} (H : law16_alive k = some r) {G : Ghost} {w : World} (hG : Holds G w)  : Ret Try.prog 8 [] w G (fun G v => R G r v) := by
  unfold law16_alive at H
  refine start Try.func8 rfl Try.ntmps8 rfl hG (E.seq (E.region (EL.run tabOk 1 rfl (EL.nil (EX.seq (E.seq (E.region (EL.run tabOk 4 rfl (EL.nil (EX.seq (E.seq (E.region (EL.run tabOk 4 rfl (EL.pubRow (xs := ([(⟨0, 1, true⟩ : Link), (⟨1, 1, true⟩ : Link)] : List Link)) 0 rfl (show Els G ([(⟨0, 1, true⟩ : Link), (⟨1, 1, true⟩ : Link)] : List Link) [(.agg #[.int .i64 0, .int .i64 1, .bool true]), (.agg #[.int .i64 1, .int .i64 1, .bool true])] from (.cons rfl (.cons rfl All2.nil))) rfl rfl (fun k1 A2 c3 G6 hle4 h5 => ?_)))))))))))))))
  refine EL.run tabOk 2 rfl (EL.pubRow (xs := ([(⟨1, ([(⟨0, 1, true⟩ : Link), (⟨1, 1, true⟩ : Link)] : List Link)⟩ : Plan), (⟨2, ([(⟨0, 1, true⟩ : Link), (⟨1, 1, true⟩ : Link)] : List Link)⟩ : Plan)] : List Plan)) 1 rfl (show Els G6 ([(⟨1, ([(⟨0, 1, true⟩ : Link), (⟨1, 1, true⟩ : Link)] : List Link)⟩ : Plan), (⟨2, ([(⟨0, 1, true⟩ : Link), (⟨1, 1, true⟩ : Link)] : List Link)⟩ : Plan)] : List Plan) [(.agg #[.int .i64 1, .slice A2 ([(⟨0, 1, true⟩ : Link), (⟨1, 1, true⟩ : Link)] : List Link).length c3]), (.agg #[.int .i64 2, .slice A2 ([(⟨0, 1, true⟩ : Link), (⟨1, 1, true⟩ : Link)] : List Link).length c3])] from (.cons ⟨_, rfl, h5⟩ (.cons ⟨_, rfl, h5⟩ All2.nil))) rfl rfl (fun k7 A8 c9 G12 hle10 h11 => ?_))
  have h5 := Rep.mono hle10 h5
  obtain ⟨x13, hx14, H⟩ := bind_some H
  refine EL.call rfl rfl rfl rfl tree_Roles_enters (fun w hw => tree_Roles_ok hx14 hw ⟨_, _, rfl, h11, (Sl.nil _)⟩) (fun v17 G16 hle15 hv18 => ?_)
  obtain ⟨u19, u20, rfl, h21, h22⟩ := hv18
  obtain ⟨A23, c24, rfl, h25⟩ := Sl.open h21
  obtain rfl : _ = _ := h22
  refine EL.run tabOk 5 rfl (EL.nil (EX.seq (E.seq (E.join (fun env L Γ => ∃ (b26 : Bool), env = [(0, some (.v (.bool b26)))] ∧ L = [.gone, .gone] ∧ GLe G16 Γ ∧ law16_alive_j1 k b26 = some r) ?_ (fun hj27 => ?_)))))
  · skip
    rintro _ _ G29 ⟨b26, rfl, rfl, hle28, H⟩
    unfold law16_alive_j1 at H
    exact EX.seq (E.ret (EX.retE H tabOk rfl rfl))
  · skip
    refine E.region (EL.run tabOk 3 rfl (EL.split (s := 19) rfl H (fun hb H => ?_) (fun hb H => ?_)))
    · skip
      refine EL.run tabOk 3 rfl (EL.pubRow (xs := ([1, 1] : List Int)) 2 rfl (show Els G16 ([1, 1] : List Int) [(.int .i64 1), (.int .i64 1)] from (.cons rfl (.cons rfl All2.nil))) rfl rfl (fun k30 A31 c32 G35 hle33 h34 => ?_))
      have h25 := Rep.mono hle33 h25
      refine EL.pubRow (xs := ([0, 2] : List Int)) 3 rfl (show Els G35 ([0, 2] : List Int) [(.int .i64 0), (.int .i64 2)] from (.cons rfl (.cons rfl All2.nil))) rfl rfl (fun k36 A37 c38 G41 hle39 h40 => ?_)
      have h25 := Rep.mono hle39 h25; have h34 := Rep.mono hle39 h34
      refine EL.run tabOk 1 rfl ?_
      obtain ⟨x42, hx43, H⟩ := bind_some H
      exact EL.callS (r := 4) (e := 47) (sz := 1) (n := 2) (xs := ([([1, 1] : List Int), ([0, 2] : List Int)] : List (List Int))) (va := fun A c => [.slice A23 x13.1.length c24, .slice A ([([1, 1] : List Int), ([0, 2] : List Int)] : List (List Int)).length c]) (u := .bool x42) (show Els G41 ([([1, 1] : List Int), ([0, 2] : List Int)] : List (List Int)) [(.slice A31 ([1, 1] : List Int).length c32), (.slice A37 ([0, 2] : List Int).length c38)] from (.cons h34 (.cons h40 All2.nil))) rfl rfl rfl rfl rfl (fun _ _ => rfl) rfl ref16_Same_enters (fun w A c G1 hle' h1' hw => ref16_Same_ok hx43 hw (Rep.mono hle' h25) h1') (fun _ _ h => h) (EL.run tabOk 2 rfl (EL.nil (EX.fewer (hj27 _ _ _ ⟨x42, rfl, rfl, (GLe.trans hle33 hle39), H⟩) ⟨⟨_, rfl, rfl⟩, trivial⟩ ⟨.inr rfl, .inr rfl, trivial⟩ rfl rfl)))
    · skip
      exact EL.run tabOk 7 rfl (EL.nil (EX.fewer (hj27 _ _ _ ⟨false, rfl, rfl, (GLe.refl _), H⟩) ⟨⟨_, rfl, rfl⟩, trivial⟩ ⟨.inr rfl, .inr rfl, trivial⟩ rfl rfl))
theorem law16_TreeNear_enters : Enters Try.prog 3 := ⟨_, Try.func3, rfl, rfl⟩
set_option maxHeartbeats 4000000 in
theorem law16_TreeNear_ok {k : Nat} {p0 : Lan} {p1 : Int} {p2 : Int} {r : Bool} (H : law16_TreeNear k p0 p1 p2 = some r) {G : Ghost} {w : World} (hG : Holds G w) {v0 : Value} (h0 : R G p0 v0) : Ret Try.prog 3 [v0, .int .i64 p1, .int .i64 p2] w G (fun G v => R G r v) := by
  obtain ⟨v7, v8, rfl, h3, h6⟩ := h0
  obtain ⟨A1, c2, rfl, h3⟩ := Sl.open h3
  obtain ⟨A4, c5, rfl, h6⟩ := Sl.open h6
  unfold law16_TreeNear at H
  refine start Try.func3 rfl Try.ntmps3 rfl hG (E.seq (E.region (EL.run tabOk 2 rfl (EL.nil (EX.seq (E.seq (E.region (EL.run tabOk 1 rfl ?_))))))))
  obtain ⟨x9, hx10, H⟩ := bind_some H
  refine EL.call rfl rfl rfl rfl law16_few_enters (fun w hw => law16_few_ok hx10 hw ⟨_, _, rfl, h3, h6⟩) (fun v13 G12 hle11 hv14 => ?_)
  have h3 := Rep.mono hle11 h3; have h6 := Rep.mono hle11 h6
  obtain ⟨v21, v22, rfl, h17, h20⟩ := hv14
  obtain ⟨A15, c16, rfl, h17⟩ := Sl.open h17
  obtain ⟨A18, c19, rfl, h20⟩ := Sl.open h20
  refine EL.run tabOk 1 rfl (EL.nil (EX.seq (E.seq (E.seq (E.region (EL.run tabOk 4 rfl (EL.nil (EX.seq (E.cond rfl H (fun hb H => ?_) (fun hb H => ?_))))))))))
  · skip
    refine E.seq (E.region (EL.run tabOk 1 rfl ?_))
    obtain ⟨x23, hx24, H⟩ := bind_some H
    refine EL.call rfl rfl rfl rfl tree_Best_enters (fun w hw => tree_Best_ok hx24 hw ⟨_, _, rfl, h17, h20⟩) (fun v27 G26 hle25 hv28 => ?_)
    have h17 := Rep.mono hle25 h17; have h20 := Rep.mono hle25 h20
    obtain ⟨u29, u30, u31, rfl, h32, h33, h34⟩ := hv28
    obtain rfl : _ = _ := h32
    obtain rfl : _ = _ := h33
    obtain rfl : _ = _ := h34
    refine EL.run tabOk 7 rfl (EL.nil (EX.seq (E.seq (E.region ?_))))
    obtain ⟨x35, hx36, H⟩ := bind_some H
    refine EL.call rfl rfl rfl rfl law16_alive_enters (fun w hw => law16_alive_ok hx36 hw ) (fun v39 G38 hle37 hv40 => ?_)
    have h17 := Rep.mono hle37 h17; have h20 := Rep.mono hle37 h20
    obtain rfl : _ = _ := hv40
    exact EL.run tabOk 5 rfl (EL.nil (EX.seq (E.ret (EX.retT (EX.retE H tabOk rfl rfl)))))
  · skip
    refine E.skip (EX.seq (E.seq ?_))
    obtain ⟨i41, hq42, H⟩ := bind_some H
    obtain ⟨i43, hq44, H⟩ := bind_some H
    obtain ⟨i45, hq46, H⟩ := bind_some H
    obtain ⟨i47, hq48, H⟩ := bind_some H
    refine E.fewer (env' := [(1, some (.v (.int .i64 p1))), (2, some (.v (.int .i64 p2))), (3, some (.p 0 0))]) (L' := [.box 25 [.v (.int .i64 x9.Segs), .v (.slice A15 x9.Plans.length c16), .v (.slice A18 x9.Hosts.length c19)]]) (E.sub' ((E.draw mixed (fun (bs : List Bool) (env : Env) (L : List Ent) (Γ : Ghost) => match bs with | [b0', b1', b2', b3', b4', b5', b6', b7', b8', b9', b10', b11', b12', b13', b14', b15', b16', b17', b18', b19', b20', b21', b22', b23', b24', b25', b26', b27'] =>  env = [(37, bif b0' then some (.v (.int .i64 p1)) else none), (38, bif b1' then some (.p 0 1) else none), (39, bif b2' then some (.v (.slice A15 x9.Plans.length c16)) else none), (40, bif b3' then some (.v (.int .i64 (x9.Plans.length : Int))) else none), (41, bif b4' then some (.v (.int .i64 i41)) else none), (42, bif b5' then some (.p 0 1) else none), (43, bif b6' then some (.v (.slice A15 x9.Plans.length c16)) else none), (44, bif b7' then some (.v (.int .i64 (x9.Plans.length : Int))) else none), (45, bif b8' then some (.v (.int .i64 (wr (i41 + (x9.Plans.length : Int))))) else none), (46, bif b9' then some (.p 0 1) else none), (47, bif b10' then some (.v (.slice A15 x9.Plans.length c16)) else none), (48, bif b11' then some (.v (.int .i64 (x9.Plans.length : Int))) else none), (49, bif b12' then some (.v (.int .i64 i43)) else none), (50, bif b13' then some (.v (.int .i64 p2)) else none), (51, bif b14' then some (.p 0 1) else none), (52, bif b15' then some (.v (.slice A15 x9.Plans.length c16)) else none), (53, bif b16' then some (.v (.int .i64 (x9.Plans.length : Int))) else none), (54, bif b17' then some (.v (.int .i64 i45)) else none), (55, bif b18' then some (.p 0 1) else none), (56, bif b19' then some (.v (.slice A15 x9.Plans.length c16)) else none), (57, bif b20' then some (.v (.int .i64 (x9.Plans.length : Int))) else none), (58, bif b21' then some (.v (.int .i64 (wr (i45 + (x9.Plans.length : Int))))) else none), (59, bif b22' then some (.p 0 1) else none), (60, bif b23' then some (.v (.slice A15 x9.Plans.length c16)) else none), (61, bif b24' then some (.v (.int .i64 (x9.Plans.length : Int))) else none), (62, bif b25' then some (.v (.int .i64 i47)) else none), (1, bif b26' then some (.v (.int .i64 i43)) else some (.v (.int .i64 p1))), (2, bif b27' then some (.v (.int .i64 i47)) else some (.v (.int .i64 p2))), (3, some (.p 0 0))] ∧ L = [.box 25 [.v (.int .i64 x9.Segs), .v (.slice A15 x9.Plans.length c16), .v (.slice A18 x9.Hosts.length c19)]] ∧ GLe G12 Γ | _ => False) ⟨rfl, rfl, GLe.refl _⟩ rfl ?_ ?_)) ⟨rfl, rfl, rfl, rfl, rfl, rfl, rfl, rfl, rfl, rfl, rfl, rfl, rfl, rfl, rfl, rfl, rfl, rfl, rfl, rfl, rfl, rfl, rfl, rfl, rfl, rfl, rfl, rfl, rfl, trivial⟩) ⟨⟨_, rfl, rfl⟩, ⟨_, rfl, rfl⟩, ⟨_, rfl, rfl⟩, trivial⟩ ⟨.inr rfl, trivial⟩ rfl rfl
    · refine ⟨?_, ?_, ?_, ?_, ?_, ?_, ?_, ?_, ?_, ?_, ?_, ?_, ?_, ?_, ?_, ?_, ?_, ?_, ?_, ?_, ?_, ?_, ?_, ?_, ?_, ?_, ?_, ?_, trivial⟩
      · intro b0' b1' b2' b3' b4' b5' b6' b7' b8' b9' b10' b11' b12' b13' b14' b15' b16' b17' b18' b19' b20' b21' b22' b23' b24' b25' b26' b27'
        rintro ⟨⟩ ⟨⟩ ⟨⟩ ⟨⟩
        rintro _ _ G50 ⟨rfl, rfl, hle49⟩ K hK
        exact EL.step tabOk rfl (EL.nil (EX.sub' (hK _ _ _ ⟨rfl, rfl, hle49⟩) ⟨rfl, rfl, rfl, rfl, rfl, rfl, rfl, rfl, rfl, rfl, rfl, rfl, rfl, rfl, rfl, rfl, rfl, rfl, rfl, rfl, rfl, rfl, rfl, rfl, rfl, rfl, rfl, rfl, rfl, trivial⟩))
      · intro b0' b1' b2' b3' b4' b5' b6' b7' b8' b9' b10' b11' b12' b13' b14' b15' b16' b17' b18' b19' b20' b21' b22' b23' b24' b25' b26' b27'
        rintro ⟨⟩ ⟨⟩ ⟨⟩ ⟨⟩
        rintro _ _ G52 ⟨rfl, rfl, hle51⟩ K hK
        have h17 := Rep.mono hle51 h17
        have h20 := Rep.mono hle51 h20
        exact EL.step tabOk rfl (EL.nil (EX.sub' (hK _ _ _ ⟨rfl, rfl, hle51⟩) ⟨rfl, rfl, rfl, rfl, rfl, rfl, rfl, rfl, rfl, rfl, rfl, rfl, rfl, rfl, rfl, rfl, rfl, rfl, rfl, rfl, rfl, rfl, rfl, rfl, rfl, rfl, rfl, rfl, rfl, trivial⟩))
      · intro b0' b1' b2' b3' b4' b5' b6' b7' b8' b9' b10' b11' b12' b13' b14' b15' b16' b17' b18' b19' b20' b21' b22' b23' b24' b25' b26' b27'
        rintro ⟨⟩ ⟨⟩ ⟨⟩ ⟨⟩ ⟨⟩
        rintro _ _ G54 ⟨rfl, rfl, hle53⟩ K hK
        have h17 := Rep.mono hle53 h17
        have h20 := Rep.mono hle53 h20
        exact EL.step tabOk rfl (EL.nil (EX.sub' (hK _ _ _ ⟨rfl, rfl, hle53⟩) ⟨rfl, rfl, rfl, rfl, rfl, rfl, rfl, rfl, rfl, rfl, rfl, rfl, rfl, rfl, rfl, rfl, rfl, rfl, rfl, rfl, rfl, rfl, rfl, rfl, rfl, rfl, rfl, rfl, rfl, trivial⟩))
      · intro b0' b1' b2' b3' b4' b5' b6' b7' b8' b9' b10' b11' b12' b13' b14' b15' b16' b17' b18' b19' b20' b21' b22' b23' b24' b25' b26' b27'
        rintro ⟨⟩ ⟨⟩ ⟨⟩ ⟨⟩ ⟨⟩
        rintro _ _ G56 ⟨rfl, rfl, hle55⟩ K hK
        have h17 := Rep.mono hle55 h17
        exact EL.step tabOk rfl (EL.nil (EX.sub' (hK _ _ _ ⟨rfl, rfl, hle55⟩) ⟨rfl, rfl, rfl, rfl, rfl, rfl, rfl, rfl, rfl, rfl, rfl, rfl, rfl, rfl, rfl, rfl, rfl, rfl, rfl, rfl, rfl, rfl, rfl, rfl, rfl, rfl, rfl, rfl, rfl, trivial⟩))
      · intro b0' b1' b2' b3' b4' b5' b6' b7' b8' b9' b10' b11' b12' b13' b14' b15' b16' b17' b18' b19' b20' b21' b22' b23' b24' b25' b26' b27'
        rintro ⟨⟩ ⟨⟩ ⟨⟩ ⟨⟩ ⟨⟩ ⟨⟩
        rintro _ _ G58 ⟨rfl, rfl, hle57⟩ K hK
        exact EL.rem hq42 rfl rfl rfl rfl rfl (EL.nil (EX.sub' (hK _ _ _ ⟨rfl, rfl, hle57⟩) ⟨rfl, rfl, rfl, rfl, rfl, rfl, rfl, rfl, rfl, rfl, rfl, rfl, rfl, rfl, rfl, rfl, rfl, rfl, rfl, rfl, rfl, rfl, rfl, rfl, rfl, rfl, rfl, rfl, rfl, trivial⟩))
      · intro b0' b1' b2' b3' b4' b5' b6' b7' b8' b9' b10' b11' b12' b13' b14' b15' b16' b17' b18' b19' b20' b21' b22' b23' b24' b25' b26' b27'
        rintro ⟨⟩ ⟨⟩ ⟨⟩ ⟨⟩
        rintro _ _ G60 ⟨rfl, rfl, hle59⟩ K hK
        have h17 := Rep.mono hle59 h17
        have h20 := Rep.mono hle59 h20
        exact EL.step tabOk rfl (EL.nil (EX.sub' (hK _ _ _ ⟨rfl, rfl, hle59⟩) ⟨rfl, rfl, rfl, rfl, rfl, rfl, rfl, rfl, rfl, rfl, rfl, rfl, rfl, rfl, rfl, rfl, rfl, rfl, rfl, rfl, rfl, rfl, rfl, rfl, rfl, rfl, rfl, rfl, rfl, trivial⟩))
      · intro b0' b1' b2' b3' b4' b5' b6' b7' b8' b9' b10' b11' b12' b13' b14' b15' b16' b17' b18' b19' b20' b21' b22' b23' b24' b25' b26' b27'
        rintro ⟨⟩ ⟨⟩ ⟨⟩ ⟨⟩ ⟨⟩
        rintro _ _ G62 ⟨rfl, rfl, hle61⟩ K hK
        have h17 := Rep.mono hle61 h17
        have h20 := Rep.mono hle61 h20
        exact EL.step tabOk rfl (EL.nil (EX.sub' (hK _ _ _ ⟨rfl, rfl, hle61⟩) ⟨rfl, rfl, rfl, rfl, rfl, rfl, rfl, rfl, rfl, rfl, rfl, rfl, rfl, rfl, rfl, rfl, rfl, rfl, rfl, rfl, rfl, rfl, rfl, rfl, rfl, rfl, rfl, rfl, rfl, trivial⟩))
      · intro b0' b1' b2' b3' b4' b5' b6' b7' b8' b9' b10' b11' b12' b13' b14' b15' b16' b17' b18' b19' b20' b21' b22' b23' b24' b25' b26' b27'
        rintro ⟨⟩ ⟨⟩ ⟨⟩ ⟨⟩ ⟨⟩
        rintro _ _ G64 ⟨rfl, rfl, hle63⟩ K hK
        have h17 := Rep.mono hle63 h17
        exact EL.step tabOk rfl (EL.nil (EX.sub' (hK _ _ _ ⟨rfl, rfl, hle63⟩) ⟨rfl, rfl, rfl, rfl, rfl, rfl, rfl, rfl, rfl, rfl, rfl, rfl, rfl, rfl, rfl, rfl, rfl, rfl, rfl, rfl, rfl, rfl, rfl, rfl, rfl, rfl, rfl, rfl, rfl, trivial⟩))
      · intro b0' b1' b2' b3' b4' b5' b6' b7' b8' b9' b10' b11' b12' b13' b14' b15' b16' b17' b18' b19' b20' b21' b22' b23' b24' b25' b26' b27'
        rintro ⟨⟩ ⟨⟩ ⟨⟩ ⟨⟩ ⟨⟩ ⟨⟩
        rintro _ _ G66 ⟨rfl, rfl, hle65⟩ K hK
        exact EL.step tabOk rfl (EL.nil (EX.sub' (hK _ _ _ ⟨rfl, rfl, hle65⟩) ⟨rfl, rfl, rfl, rfl, rfl, rfl, rfl, rfl, rfl, rfl, rfl, rfl, rfl, rfl, rfl, rfl, rfl, rfl, rfl, rfl, rfl, rfl, rfl, rfl, rfl, rfl, rfl, rfl, rfl, trivial⟩))
      · intro b0' b1' b2' b3' b4' b5' b6' b7' b8' b9' b10' b11' b12' b13' b14' b15' b16' b17' b18' b19' b20' b21' b22' b23' b24' b25' b26' b27'
        rintro ⟨⟩ ⟨⟩ ⟨⟩ ⟨⟩
        rintro _ _ G68 ⟨rfl, rfl, hle67⟩ K hK
        have h17 := Rep.mono hle67 h17
        have h20 := Rep.mono hle67 h20
        exact EL.step tabOk rfl (EL.nil (EX.sub' (hK _ _ _ ⟨rfl, rfl, hle67⟩) ⟨rfl, rfl, rfl, rfl, rfl, rfl, rfl, rfl, rfl, rfl, rfl, rfl, rfl, rfl, rfl, rfl, rfl, rfl, rfl, rfl, rfl, rfl, rfl, rfl, rfl, rfl, rfl, rfl, rfl, trivial⟩))
      · intro b0' b1' b2' b3' b4' b5' b6' b7' b8' b9' b10' b11' b12' b13' b14' b15' b16' b17' b18' b19' b20' b21' b22' b23' b24' b25' b26' b27'
        rintro ⟨⟩ ⟨⟩ ⟨⟩ ⟨⟩ ⟨⟩
        rintro _ _ G70 ⟨rfl, rfl, hle69⟩ K hK
        have h17 := Rep.mono hle69 h17
        have h20 := Rep.mono hle69 h20
        exact EL.step tabOk rfl (EL.nil (EX.sub' (hK _ _ _ ⟨rfl, rfl, hle69⟩) ⟨rfl, rfl, rfl, rfl, rfl, rfl, rfl, rfl, rfl, rfl, rfl, rfl, rfl, rfl, rfl, rfl, rfl, rfl, rfl, rfl, rfl, rfl, rfl, rfl, rfl, rfl, rfl, rfl, rfl, trivial⟩))
      · intro b0' b1' b2' b3' b4' b5' b6' b7' b8' b9' b10' b11' b12' b13' b14' b15' b16' b17' b18' b19' b20' b21' b22' b23' b24' b25' b26' b27'
        rintro ⟨⟩ ⟨⟩ ⟨⟩ ⟨⟩ ⟨⟩
        rintro _ _ G72 ⟨rfl, rfl, hle71⟩ K hK
        have h17 := Rep.mono hle71 h17
        exact EL.step tabOk rfl (EL.nil (EX.sub' (hK _ _ _ ⟨rfl, rfl, hle71⟩) ⟨rfl, rfl, rfl, rfl, rfl, rfl, rfl, rfl, rfl, rfl, rfl, rfl, rfl, rfl, rfl, rfl, rfl, rfl, rfl, rfl, rfl, rfl, rfl, rfl, rfl, rfl, rfl, rfl, rfl, trivial⟩))
      · intro b0' b1' b2' b3' b4' b5' b6' b7' b8' b9' b10' b11' b12' b13' b14' b15' b16' b17' b18' b19' b20' b21' b22' b23' b24' b25' b26' b27'
        rintro ⟨⟩ ⟨⟩ ⟨⟩ ⟨⟩ ⟨⟩
        rintro _ _ G74 ⟨rfl, rfl, hle73⟩ K hK
        exact EL.rem hq44 rfl rfl rfl rfl rfl (EL.nil (EX.sub' (hK _ _ _ ⟨rfl, rfl, hle73⟩) ⟨rfl, rfl, rfl, rfl, rfl, rfl, rfl, rfl, rfl, rfl, rfl, rfl, rfl, rfl, rfl, rfl, rfl, rfl, rfl, rfl, rfl, rfl, rfl, rfl, rfl, rfl, rfl, rfl, rfl, trivial⟩))
      · intro b0' b1' b2' b3' b4' b5' b6' b7' b8' b9' b10' b11' b12' b13' b14' b15' b16' b17' b18' b19' b20' b21' b22' b23' b24' b25' b26' b27'
        rintro ⟨⟩ ⟨⟩ ⟨⟩
        rintro _ _ G76 ⟨rfl, rfl, hle75⟩ K hK
        exact EL.step tabOk rfl (EL.nil (EX.sub' (hK _ _ _ ⟨rfl, rfl, hle75⟩) ⟨rfl, rfl, rfl, rfl, rfl, rfl, rfl, rfl, rfl, rfl, rfl, rfl, rfl, rfl, rfl, rfl, rfl, rfl, rfl, rfl, rfl, rfl, rfl, rfl, rfl, rfl, rfl, rfl, rfl, trivial⟩))
      · intro b0' b1' b2' b3' b4' b5' b6' b7' b8' b9' b10' b11' b12' b13' b14' b15' b16' b17' b18' b19' b20' b21' b22' b23' b24' b25' b26' b27'
        rintro ⟨⟩ ⟨⟩ ⟨⟩
        rintro _ _ G78 ⟨rfl, rfl, hle77⟩ K hK
        have h17 := Rep.mono hle77 h17
        have h20 := Rep.mono hle77 h20
        exact EL.step tabOk rfl (EL.nil (EX.sub' (hK _ _ _ ⟨rfl, rfl, hle77⟩) ⟨rfl, rfl, rfl, rfl, rfl, rfl, rfl, rfl, rfl, rfl, rfl, rfl, rfl, rfl, rfl, rfl, rfl, rfl, rfl, rfl, rfl, rfl, rfl, rfl, rfl, rfl, rfl, rfl, rfl, trivial⟩))
      · intro b0' b1' b2' b3' b4' b5' b6' b7' b8' b9' b10' b11' b12' b13' b14' b15' b16' b17' b18' b19' b20' b21' b22' b23' b24' b25' b26' b27'
        rintro ⟨⟩ ⟨⟩ ⟨⟩ ⟨⟩
        rintro _ _ G80 ⟨rfl, rfl, hle79⟩ K hK
        have h17 := Rep.mono hle79 h17
        have h20 := Rep.mono hle79 h20
        exact EL.step tabOk rfl (EL.nil (EX.sub' (hK _ _ _ ⟨rfl, rfl, hle79⟩) ⟨rfl, rfl, rfl, rfl, rfl, rfl, rfl, rfl, rfl, rfl, rfl, rfl, rfl, rfl, rfl, rfl, rfl, rfl, rfl, rfl, rfl, rfl, rfl, rfl, rfl, rfl, rfl, rfl, rfl, trivial⟩))
      · intro b0' b1' b2' b3' b4' b5' b6' b7' b8' b9' b10' b11' b12' b13' b14' b15' b16' b17' b18' b19' b20' b21' b22' b23' b24' b25' b26' b27'
        rintro ⟨⟩ ⟨⟩ ⟨⟩ ⟨⟩
        rintro _ _ G82 ⟨rfl, rfl, hle81⟩ K hK
        have h17 := Rep.mono hle81 h17
        exact EL.step tabOk rfl (EL.nil (EX.sub' (hK _ _ _ ⟨rfl, rfl, hle81⟩) ⟨rfl, rfl, rfl, rfl, rfl, rfl, rfl, rfl, rfl, rfl, rfl, rfl, rfl, rfl, rfl, rfl, rfl, rfl, rfl, rfl, rfl, rfl, rfl, rfl, rfl, rfl, rfl, rfl, rfl, trivial⟩))
      · intro b0' b1' b2' b3' b4' b5' b6' b7' b8' b9' b10' b11' b12' b13' b14' b15' b16' b17' b18' b19' b20' b21' b22' b23' b24' b25' b26' b27'
        rintro ⟨⟩ ⟨⟩ ⟨⟩ ⟨⟩ ⟨⟩
        rintro _ _ G84 ⟨rfl, rfl, hle83⟩ K hK
        exact EL.rem hq46 rfl rfl rfl rfl rfl (EL.nil (EX.sub' (hK _ _ _ ⟨rfl, rfl, hle83⟩) ⟨rfl, rfl, rfl, rfl, rfl, rfl, rfl, rfl, rfl, rfl, rfl, rfl, rfl, rfl, rfl, rfl, rfl, rfl, rfl, rfl, rfl, rfl, rfl, rfl, rfl, rfl, rfl, rfl, rfl, trivial⟩))
      · intro b0' b1' b2' b3' b4' b5' b6' b7' b8' b9' b10' b11' b12' b13' b14' b15' b16' b17' b18' b19' b20' b21' b22' b23' b24' b25' b26' b27'
        rintro ⟨⟩ ⟨⟩ ⟨⟩
        rintro _ _ G86 ⟨rfl, rfl, hle85⟩ K hK
        have h17 := Rep.mono hle85 h17
        have h20 := Rep.mono hle85 h20
        exact EL.step tabOk rfl (EL.nil (EX.sub' (hK _ _ _ ⟨rfl, rfl, hle85⟩) ⟨rfl, rfl, rfl, rfl, rfl, rfl, rfl, rfl, rfl, rfl, rfl, rfl, rfl, rfl, rfl, rfl, rfl, rfl, rfl, rfl, rfl, rfl, rfl, rfl, rfl, rfl, rfl, rfl, rfl, trivial⟩))
      · intro b0' b1' b2' b3' b4' b5' b6' b7' b8' b9' b10' b11' b12' b13' b14' b15' b16' b17' b18' b19' b20' b21' b22' b23' b24' b25' b26' b27'
        rintro ⟨⟩ ⟨⟩ ⟨⟩ ⟨⟩
        rintro _ _ G88 ⟨rfl, rfl, hle87⟩ K hK
        have h17 := Rep.mono hle87 h17
        have h20 := Rep.mono hle87 h20
        exact EL.step tabOk rfl (EL.nil (EX.sub' (hK _ _ _ ⟨rfl, rfl, hle87⟩) ⟨rfl, rfl, rfl, rfl, rfl, rfl, rfl, rfl, rfl, rfl, rfl, rfl, rfl, rfl, rfl, rfl, rfl, rfl, rfl, rfl, rfl, rfl, rfl, rfl, rfl, rfl, rfl, rfl, rfl, trivial⟩))
      · intro b0' b1' b2' b3' b4' b5' b6' b7' b8' b9' b10' b11' b12' b13' b14' b15' b16' b17' b18' b19' b20' b21' b22' b23' b24' b25' b26' b27'
        rintro ⟨⟩ ⟨⟩ ⟨⟩ ⟨⟩
        rintro _ _ G90 ⟨rfl, rfl, hle89⟩ K hK
        have h17 := Rep.mono hle89 h17
        exact EL.step tabOk rfl (EL.nil (EX.sub' (hK _ _ _ ⟨rfl, rfl, hle89⟩) ⟨rfl, rfl, rfl, rfl, rfl, rfl, rfl, rfl, rfl, rfl, rfl, rfl, rfl, rfl, rfl, rfl, rfl, rfl, rfl, rfl, rfl, rfl, rfl, rfl, rfl, rfl, rfl, rfl, rfl, trivial⟩))
      · intro b0' b1' b2' b3' b4' b5' b6' b7' b8' b9' b10' b11' b12' b13' b14' b15' b16' b17' b18' b19' b20' b21' b22' b23' b24' b25' b26' b27'
        rintro ⟨⟩ ⟨⟩ ⟨⟩ ⟨⟩ ⟨⟩
        rintro _ _ G92 ⟨rfl, rfl, hle91⟩ K hK
        exact EL.step tabOk rfl (EL.nil (EX.sub' (hK _ _ _ ⟨rfl, rfl, hle91⟩) ⟨rfl, rfl, rfl, rfl, rfl, rfl, rfl, rfl, rfl, rfl, rfl, rfl, rfl, rfl, rfl, rfl, rfl, rfl, rfl, rfl, rfl, rfl, rfl, rfl, rfl, rfl, rfl, rfl, rfl, trivial⟩))
      · intro b0' b1' b2' b3' b4' b5' b6' b7' b8' b9' b10' b11' b12' b13' b14' b15' b16' b17' b18' b19' b20' b21' b22' b23' b24' b25' b26' b27'
        rintro ⟨⟩ ⟨⟩ ⟨⟩
        rintro _ _ G94 ⟨rfl, rfl, hle93⟩ K hK
        have h17 := Rep.mono hle93 h17
        have h20 := Rep.mono hle93 h20
        exact EL.step tabOk rfl (EL.nil (EX.sub' (hK _ _ _ ⟨rfl, rfl, hle93⟩) ⟨rfl, rfl, rfl, rfl, rfl, rfl, rfl, rfl, rfl, rfl, rfl, rfl, rfl, rfl, rfl, rfl, rfl, rfl, rfl, rfl, rfl, rfl, rfl, rfl, rfl, rfl, rfl, rfl, rfl, trivial⟩))
      · intro b0' b1' b2' b3' b4' b5' b6' b7' b8' b9' b10' b11' b12' b13' b14' b15' b16' b17' b18' b19' b20' b21' b22' b23' b24' b25' b26' b27'
        rintro ⟨⟩ ⟨⟩ ⟨⟩ ⟨⟩
        rintro _ _ G96 ⟨rfl, rfl, hle95⟩ K hK
        have h17 := Rep.mono hle95 h17
        have h20 := Rep.mono hle95 h20
        exact EL.step tabOk rfl (EL.nil (EX.sub' (hK _ _ _ ⟨rfl, rfl, hle95⟩) ⟨rfl, rfl, rfl, rfl, rfl, rfl, rfl, rfl, rfl, rfl, rfl, rfl, rfl, rfl, rfl, rfl, rfl, rfl, rfl, rfl, rfl, rfl, rfl, rfl, rfl, rfl, rfl, rfl, rfl, trivial⟩))
      · intro b0' b1' b2' b3' b4' b5' b6' b7' b8' b9' b10' b11' b12' b13' b14' b15' b16' b17' b18' b19' b20' b21' b22' b23' b24' b25' b26' b27'
        rintro ⟨⟩ ⟨⟩ ⟨⟩ ⟨⟩
        rintro _ _ G98 ⟨rfl, rfl, hle97⟩ K hK
        have h17 := Rep.mono hle97 h17
        exact EL.step tabOk rfl (EL.nil (EX.sub' (hK _ _ _ ⟨rfl, rfl, hle97⟩) ⟨rfl, rfl, rfl, rfl, rfl, rfl, rfl, rfl, rfl, rfl, rfl, rfl, rfl, rfl, rfl, rfl, rfl, rfl, rfl, rfl, rfl, rfl, rfl, rfl, rfl, rfl, rfl, rfl, rfl, trivial⟩))
      · intro b0' b1' b2' b3' b4' b5' b6' b7' b8' b9' b10' b11' b12' b13' b14' b15' b16' b17' b18' b19' b20' b21' b22' b23' b24' b25' b26' b27'
        rintro ⟨⟩ ⟨⟩ ⟨⟩ ⟨⟩
        rintro _ _ G100 ⟨rfl, rfl, hle99⟩ K hK
        exact EL.rem hq48 rfl rfl rfl rfl rfl (EL.nil (EX.sub' (hK _ _ _ ⟨rfl, rfl, hle99⟩) ⟨rfl, rfl, rfl, rfl, rfl, rfl, rfl, rfl, rfl, rfl, rfl, rfl, rfl, rfl, rfl, rfl, rfl, rfl, rfl, rfl, rfl, rfl, rfl, rfl, rfl, rfl, rfl, rfl, rfl, trivial⟩))
      · intro b0' b1' b2' b3' b4' b5' b6' b7' b8' b9' b10' b11' b12' b13' b14' b15' b16' b17' b18' b19' b20' b21' b22' b23' b24' b25' b26' b27'
        rintro ⟨⟩ ⟨⟩ ⟨⟩ ⟨⟩ ⟨⟩ ⟨⟩ ⟨⟩ ⟨⟩ ⟨⟩ ⟨⟩ ⟨⟩ ⟨⟩ ⟨⟩ ⟨⟩ ⟨⟩ ⟨⟩
        rintro _ _ G102 ⟨rfl, rfl, hle101⟩ K hK
        exact EL.step tabOk rfl (EL.nil (EX.sub' (hK _ _ _ ⟨rfl, rfl, hle101⟩) ⟨rfl, rfl, rfl, rfl, rfl, rfl, rfl, rfl, rfl, rfl, rfl, rfl, rfl, rfl, rfl, rfl, rfl, rfl, rfl, rfl, rfl, rfl, rfl, rfl, rfl, rfl, rfl, rfl, rfl, trivial⟩))
      · intro b0' b1' b2' b3' b4' b5' b6' b7' b8' b9' b10' b11' b12' b13' b14' b15' b16' b17' b18' b19' b20' b21' b22' b23' b24' b25' b26' b27'
        rintro ⟨⟩ ⟨⟩ ⟨⟩ ⟨⟩ ⟨⟩ ⟨⟩ ⟨⟩ ⟨⟩ ⟨⟩ ⟨⟩ ⟨⟩ ⟨⟩ ⟨⟩ ⟨⟩ ⟨⟩ ⟨⟩ ⟨⟩ ⟨⟩ ⟨⟩ ⟨⟩ ⟨⟩ ⟨⟩ ⟨⟩ ⟨⟩ ⟨⟩ ⟨⟩ ⟨⟩ ⟨⟩ ⟨⟩ ⟨⟩
        rintro _ _ G104 ⟨rfl, rfl, hle103⟩ K hK
        exact EL.step tabOk rfl (EL.nil (EX.sub' (hK _ _ _ ⟨rfl, rfl, hle103⟩) ⟨rfl, rfl, rfl, rfl, rfl, rfl, rfl, rfl, rfl, rfl, rfl, rfl, rfl, rfl, rfl, rfl, rfl, rfl, rfl, rfl, rfl, rfl, rfl, rfl, rfl, rfl, rfl, rfl, rfl, trivial⟩))
    rintro _ _ G106 ⟨rfl, rfl, hle105⟩
    have h17 := Rep.mono hle105 h17
    have h20 := Rep.mono hle105 h20
    refine EX.seq (E.seq (E.region (EL.run tabOk 2 rfl ?_)))
    obtain ⟨x107, hx108, H⟩ := bind_some H
    refine EL.call rfl rfl rfl rfl tree_Best_enters (fun w hw => tree_Best_ok hx108 hw ⟨_, _, rfl, h17, h20⟩) (fun v111 G110 hle109 hv112 => ?_)
    have h17 := Rep.mono hle109 h17; have h20 := Rep.mono hle109 h20
    obtain ⟨u113, u114, u115, rfl, h116, h117, h118⟩ := hv112
    obtain rfl : _ = _ := h116
    obtain rfl : _ = _ := h117
    obtain rfl : _ = _ := h118
    refine EL.run tabOk 7 rfl (EL.nil (EX.seq (E.seq (E.region (EL.run tabOk 2 rfl ?_)))))
    obtain ⟨x119, hx120, H⟩ := bind_some H
    refine EL.call rfl rfl rfl rfl tree_Best_enters (fun w hw => tree_Best_ok hx120 hw ⟨_, _, rfl, h17, h20⟩) (fun v123 G122 hle121 hv124 => ?_)
    have h17 := Rep.mono hle121 h17; have h20 := Rep.mono hle121 h20
    obtain ⟨u125, u126, u127, rfl, h128, h129, h130⟩ := hv124
    obtain rfl : _ = _ := h128
    obtain rfl : _ = _ := h129
    obtain rfl : _ = _ := h130
    refine EL.run tabOk 7 rfl (EL.nil (EX.seq (E.seq (E.seq (E.region (EL.run tabOk 2 rfl (EL.nil (EX.seq (E.cond rfl H (fun hb H => ?_) (fun hb H => ?_))))))))))
    · skip
      refine E.seq (E.region ?_)
      obtain ⟨x131, hx132, H⟩ := bind_some H
      refine EL.call rfl rfl rfl rfl law16_alive_enters (fun w hw => law16_alive_ok hx132 hw ) (fun v135 G134 hle133 hv136 => ?_)
      have h17 := Rep.mono hle133 h17; have h20 := Rep.mono hle133 h20
      obtain rfl : _ = _ := hv136
      exact EL.run tabOk 6 rfl (EL.nil (EX.seq (E.ret (EX.retT (EX.retE H tabOk rfl rfl)))))
    · skip
      refine E.skip (EX.seq (E.seq (E.seq (E.join (fun env L Γ => ∃ (b137 : Bool), env = [(1, some (.v (.int .i64 i43))), (2, some (.v (.int .i64 i47))), (3, some (.p 0 0)), (10, some (.v (.int .i64 x107.1))), (11, some (.v (.int .i64 x107.2.1))), (13, some (.v (.int .i64 x119.1))), (14, some (.v (.int .i64 x119.2.1))), (90, some (.v (.bool b137)))] ∧ L = [.box 25 [.v (.int .i64 x9.Segs), .v (.slice A15 x9.Plans.length c16), .v (.slice A18 x9.Hosts.length c19)]] ∧ GLe G122 Γ ∧ law16_TreeNear_j7 k x9 i43 i47 x107 x119 b137 = some r) ?_ (fun hj138 => ?_)))))
      · skip
        rintro _ _ G140 ⟨b137, rfl, rfl, hle139, H⟩
        unfold law16_TreeNear_j7 at H
        have h17 := Rep.mono hle139 h17; have h20 := Rep.mono hle139 h20
        refine EX.seq (E.cond rfl H (fun hb H => ?_) (fun hb H => ?_))
        · skip
          exact E.seq (E.region (EL.run tabOk 1 rfl (EL.nil (EX.seq (E.ret (EX.retT (EX.retE H tabOk rfl rfl)))))))
        · skip
          refine E.skip (EX.seq (E.seq (E.seq (E.region (EL.run tabOk 3 rfl ?_)))))
          obtain ⟨y141, hy142, H⟩ := bind_some H
          refine EL.index hy142 h17 tabOk rfl rfl rfl rfl rfl rfl rfl rfl (fun b143 o144 u145 hu146 hc147 => ?_)
          obtain ⟨v151, rfl, h150⟩ := hu146
          obtain ⟨A148, c149, rfl, h150⟩ := Sl.open h150
          refine EL.run tabOk 1 rfl (EL.load (CellsAt.fld (j := 1) hc147 rfl rfl) tabOk rfl rfl rfl rfl rfl rfl (EL.run tabOk 2 rfl (EL.nil (EX.seq (E.join (fun env L Γ =>  env = [(1, some (.v (.int .i64 i43))), (3, some (.p 0 0)), (10, some (.v (.int .i64 x107.1))), (11, some (.v (.int .i64 x107.2.1)))] ∧ L = [.box 25 [.v (.int .i64 x9.Segs), .v (.slice A15 x9.Plans.length c16), .v (.slice A18 x9.Hosts.length c19)]] ∧ GLe G140 Γ ∧ law16_TreeNear_j2 k x9 i43 x107 = some r) ?_ (fun hj152 => ?_))))))
          · skip
            rintro _ _ G154 ⟨rfl, rfl, hle153, H⟩
            unfold law16_TreeNear_j2 at H
            have h17 := Rep.mono hle153 h17; have h20 := Rep.mono hle153 h20
            refine EX.seq (E.seq (E.join (fun env L Γ => ∃ (b155 : Bool), env = [(6, some (.v (.bool b155)))] ∧ L = [.box 25 [.v (.int .i64 x9.Segs), .v (.slice A15 x9.Plans.length c16), .v (.slice A18 x9.Hosts.length c19)]] ∧ GLe G154 Γ ∧ law16_TreeNear_j1 k b155 = some r) ?_ (fun hj156 => ?_)))
            · skip
              rintro _ _ G158 ⟨b155, rfl, rfl, hle157, H⟩
              unfold law16_TreeNear_j1 at H
              have h17 := Rep.mono hle157 h17; have h20 := Rep.mono hle157 h20
              exact EX.seq (E.ret (EX.retE H tabOk rfl rfl))
            · skip
              refine E.region (EL.run tabOk 3 rfl (EL.split (s := 156) rfl H (fun hb H => ?_) (fun hb H => ?_)))
              · skip
                refine EL.run tabOk 6 rfl ?_
                obtain ⟨y159, hy160, H⟩ := bind_some H
                refine EL.index hy160 h17 tabOk rfl rfl rfl rfl rfl rfl rfl rfl (fun b161 o162 u163 hu164 hc165 => ?_)
                obtain ⟨v169, rfl, h168⟩ := hu164
                obtain ⟨A166, c167, rfl, h168⟩ := Sl.open h168
                exact EL.run tabOk 1 rfl (EL.load (CellsAt.fld (j := 0) hc165 rfl rfl) tabOk rfl rfl rfl rfl rfl rfl (EL.run tabOk 4 rfl (EL.nil (EX.fewer (hj156 _ _ _ ⟨(x107.2.1 == 0) == (x107.1 == y159.ID), rfl, rfl, (GLe.refl _), H⟩) ⟨⟨_, rfl, rfl⟩, trivial⟩ ⟨.inr rfl, trivial⟩ rfl rfl))))
              · skip
                exact EL.run tabOk 13 rfl (EL.nil (EX.fewer (hj156 _ _ _ ⟨false, rfl, rfl, (GLe.refl _), H⟩) ⟨⟨_, rfl, rfl⟩, trivial⟩ ⟨.inr rfl, trivial⟩ rfl rfl))
          · skip
            refine E.block (E.fewer (E.loop (fun n env L Γ => ∃ (i170 : Int), env = [(1, some (.v (.int .i64 i43))), (2, some (.v (.int .i64 i47))), (3, some (.p 0 0)), (10, some (.v (.int .i64 x107.1))), (11, some (.v (.int .i64 x107.2.1))), (13, some (.v (.int .i64 x119.1))), (14, some (.v (.int .i64 x119.2.1))), (96, some (.v (.slice A148 y141.Ports.length c149))), (97, some (.v (.int .i64 (y141.Ports.length : Int)))), (98, some (.v (.int .i64 i170)))] ∧ L = [.box 25 [.v (.int .i64 x9.Segs), .v (.slice A15 x9.Plans.length c16), .v (.slice A18 x9.Hosts.length c19)]] ∧ GLe G140 Γ ∧ loopN (fun _ => none) (law16_TreeNear_s6 k x9 i43 i47 x107 x119 y141) n i170 = some r) k ⟨0, rfl, rfl, GLe.refl _, H⟩ ?_) ⟨⟨_, rfl, rfl⟩, ⟨_, rfl, rfl⟩, ⟨_, rfl, rfl⟩, ⟨_, rfl, rfl⟩, ⟨_, rfl, rfl⟩, ⟨_, rfl, rfl⟩, ⟨_, rfl, rfl⟩, ⟨_, rfl, rfl⟩, ⟨_, rfl, rfl⟩, ⟨_, rfl, rfl⟩, trivial⟩ ⟨.inr rfl, trivial⟩ rfl rfl)
            rintro n175 _ _ G173 ⟨i170, rfl, rfl, hle171, H⟩ K hK174
            obtain _ | n175 := n175
            · exact none_ne H
            rw [loopN] at H; unfold law16_TreeNear_s6 at H
            have h150 := Rep.mono hle171 h150; have h17 := Rep.mono hle171 h17; have h20 := Rep.mono hle171 h20
            refine E.seq (E.region (EL.run tabOk 1 rfl (EL.nil (EX.seq (E.seq (E.cond rfl H (fun hb H => ?_) (fun hb H => ?_)))))))
            · skip
              refine E.skip (EX.seq (E.seq (E.block (E.seq (E.region ?_)))))
              obtain ⟨y176, hy177, H⟩ := bind_some H
              refine EL.index hy177 h150 tabOk rfl rfl rfl rfl rfl rfl rfl rfl (fun b178 o179 u180 hu181 hc182 => ?_)
              obtain rfl : _ = _ := hu181
              refine EL.load hc182 tabOk rfl rfl rfl rfl rfl rfl (EL.run tabOk 2 rfl (EL.nil (EX.seq (E.seq (E.region (EL.run tabOk 3 rfl ?_))))))
              obtain ⟨y183, hy184, H⟩ := bind_some H
              refine EL.index hy184 h17 tabOk rfl rfl rfl rfl rfl rfl rfl rfl (fun b185 o186 u187 hu188 hc189 => ?_)
              obtain ⟨v193, rfl, h192⟩ := hu188
              obtain ⟨A190, c191, rfl, h192⟩ := Sl.open h192
              refine EL.run tabOk 1 rfl (EL.load (CellsAt.fld (j := 1) hc189 rfl rfl) tabOk rfl rfl rfl rfl rfl rfl (EL.run tabOk 2 rfl (EL.nil (EX.seq (E.join (fun env L Γ =>  env = [(1, some (.v (.int .i64 i43))), (2, some (.v (.int .i64 i47))), (3, some (.p 0 0)), (10, some (.v (.int .i64 x107.1))), (11, some (.v (.int .i64 x107.2.1))), (13, some (.v (.int .i64 x119.1))), (14, some (.v (.int .i64 x119.2.1))), (96, some (.v (.slice A148 y141.Ports.length c149))), (97, some (.v (.int .i64 (y141.Ports.length : Int)))), (98, some (.v (.int .i64 i170)))] ∧ L = [.box 25 [.v (.int .i64 x9.Segs), .v (.slice A15 x9.Plans.length c16), .v (.slice A18 x9.Hosts.length c19)], .box 35 [.v (.int .i64 y176.Seg), .v (.int .i64 y176.Cost), .v (.bool y176.Up)]] ∧ GLe G173 Γ ∧ law16_TreeNear_j3 k i170 (loopN (fun _ => none) (law16_TreeNear_s6 k x9 i43 i47 x107 x119 y141) n175) = some r) ?_ (fun hj194 => ?_))))))
              · skip
                rintro _ _ G196 ⟨rfl, rfl, hle195, H⟩
                unfold law16_TreeNear_j3 at H
                have h150 := Rep.mono hle195 h150; have h17 := Rep.mono hle195 h17; have h20 := Rep.mono hle195 h20
                exact EX.block (EX.seq (E.region (EL.run tabOk 2 rfl (EL.nil (EX.fewer (hK174 n175 _ _ _ (Nat.lt_succ_self _) ⟨wr (i170 + 1), rfl, rfl, (GLe.trans hle171 hle195), H⟩) ⟨⟨_, rfl, rfl⟩, ⟨_, rfl, rfl⟩, ⟨_, rfl, rfl⟩, ⟨_, rfl, rfl⟩, ⟨_, rfl, rfl⟩, ⟨_, rfl, rfl⟩, ⟨_, rfl, rfl⟩, ⟨_, rfl, rfl⟩, ⟨_, rfl, rfl⟩, ⟨_, rfl, rfl⟩, trivial⟩ ⟨.inr rfl, trivial⟩ rfl rfl)))))
              · skip
                refine E.block (E.fewer (E.loop (fun n env L Γ => ∃ (i197 : Int), env = [(1, some (.v (.int .i64 i43))), (2, some (.v (.int .i64 i47))), (3, some (.p 0 0)), (10, some (.v (.int .i64 x107.1))), (11, some (.v (.int .i64 x107.2.1))), (13, some (.v (.int .i64 x119.1))), (14, some (.v (.int .i64 x119.2.1))), (17, some (.p 1 0)), (96, some (.v (.slice A148 y141.Ports.length c149))), (97, some (.v (.int .i64 (y141.Ports.length : Int)))), (98, some (.v (.int .i64 i170))), (107, some (.v (.slice A190 y183.Ports.length c191))), (108, some (.v (.int .i64 (y183.Ports.length : Int)))), (109, some (.v (.int .i64 i197)))] ∧ L = [.box 25 [.v (.int .i64 x9.Segs), .v (.slice A15 x9.Plans.length c16), .v (.slice A18 x9.Hosts.length c19)], .box 35 [.v (.int .i64 y176.Seg), .v (.int .i64 y176.Cost), .v (.bool y176.Up)]] ∧ GLe G173 Γ ∧ loopN (fun _ => none) (law16_TreeNear_s5 k i43 i47 x107 x119 i170 (loopN (fun _ => none) (law16_TreeNear_s6 k x9 i43 i47 x107 x119 y141) n175) y176 y183) n i197 = some r) k ⟨0, rfl, rfl, GLe.refl _, H⟩ ?_) ⟨⟨_, rfl, rfl⟩, ⟨_, rfl, rfl⟩, ⟨_, rfl, rfl⟩, ⟨_, rfl, rfl⟩, ⟨_, rfl, rfl⟩, ⟨_, rfl, rfl⟩, ⟨_, rfl, rfl⟩, ⟨_, rfl, rfl⟩, ⟨_, rfl, rfl⟩, ⟨_, rfl, rfl⟩, ⟨_, rfl, rfl⟩, ⟨_, rfl, rfl⟩, ⟨_, rfl, rfl⟩, ⟨_, rfl, rfl⟩, trivial⟩ ⟨.inr rfl, .inr rfl, trivial⟩ rfl rfl)
                rintro n202 _ _ G200 ⟨i197, rfl, rfl, hle198, H⟩ K hK201
                obtain _ | n202 := n202
                · exact none_ne H
                rw [loopN] at H; unfold law16_TreeNear_s5 at H
                have h150 := Rep.mono hle198 h150; have h192 := Rep.mono hle198 h192; have h17 := Rep.mono hle198 h17; have h20 := Rep.mono hle198 h20
                refine E.seq (E.region (EL.run tabOk 1 rfl (EL.nil (EX.seq (E.seq (E.cond rfl H (fun hb H => ?_) (fun hb H => ?_)))))))
                · skip
                  refine E.skip (EX.seq (E.seq (E.block (E.seq (E.region ?_)))))
                  obtain ⟨y203, hy204, H⟩ := bind_some H
                  refine EL.index hy204 h192 tabOk rfl rfl rfl rfl rfl rfl rfl rfl (fun b205 o206 u207 hu208 hc209 => ?_)
                  obtain rfl : _ = _ := hu208
                  refine EL.load hc209 tabOk rfl rfl rfl rfl rfl rfl (EL.run tabOk 2 rfl (EL.nil (EX.seq (E.seq (E.join (fun env L Γ => ∃ (b210 : Bool), env = [(1, some (.v (.int .i64 i43))), (2, some (.v (.int .i64 i47))), (3, some (.p 0 0)), (10, some (.v (.int .i64 x107.1))), (11, some (.v (.int .i64 x107.2.1))), (13, some (.v (.int .i64 x119.1))), (14, some (.v (.int .i64 x119.2.1))), (17, some (.p 1 0)), (96, some (.v (.slice A148 y141.Ports.length c149))), (97, some (.v (.int .i64 (y141.Ports.length : Int)))), (98, some (.v (.int .i64 i170))), (107, some (.v (.slice A190 y183.Ports.length c191))), (108, some (.v (.int .i64 (y183.Ports.length : Int)))), (109, some (.v (.int .i64 i197))), (151, some (.v (.bool b210)))] ∧ L = [.box 25 [.v (.int .i64 x9.Segs), .v (.slice A15 x9.Plans.length c16), .v (.slice A18 x9.Hosts.length c19)], .box 35 [.v (.int .i64 y176.Seg), .v (.int .i64 y176.Cost), .v (.bool y176.Up)], .box 35 [.v (.int .i64 y203.Seg), .v (.int .i64 y203.Cost), .v (.bool y203.Up)]] ∧ GLe G200 Γ ∧ law16_TreeNear_j4 k i197 (loopN (fun _ => none) (law16_TreeNear_s5 k i43 i47 x107 x119 i170 (loopN (fun _ => none) (law16_TreeNear_s6 k x9 i43 i47 x107 x119 y141) n175) y176 y183) n202) b210 = some r) ?_ (fun hj211 => ?_))))))
                  · skip
                    rintro _ _ G213 ⟨b210, rfl, rfl, hle212, H⟩
                    unfold law16_TreeNear_j4 at H
                    have h150 := Rep.mono hle212 h150; have h192 := Rep.mono hle212 h192; have h17 := Rep.mono hle212 h17; have h20 := Rep.mono hle212 h20
                    refine EX.seq (E.cond rfl H (fun hb H => ?_) (fun hb H => ?_))
                    · skip
                      exact E.seq (E.region (EL.run tabOk 1 rfl (EL.nil (EX.seq (E.ret (EX.retB (EX.retT (EX.retT (EX.retB (EX.retB (EX.retT (EX.retT (EX.retB (EX.retT (EX.retE H tabOk rfl rfl)))))))))))))))
                    · skip
                      exact E.skip (EX.block (EX.seq (E.region (EL.run tabOk 2 rfl (EL.nil (EX.fewer (hK201 n202 _ _ _ (Nat.lt_succ_self _) ⟨wr (i197 + 1), rfl, rfl, (GLe.trans hle198 hle212), H⟩) ⟨⟨_, rfl, rfl⟩, ⟨_, rfl, rfl⟩, ⟨_, rfl, rfl⟩, ⟨_, rfl, rfl⟩, ⟨_, rfl, rfl⟩, ⟨_, rfl, rfl⟩, ⟨_, rfl, rfl⟩, ⟨_, rfl, rfl⟩, ⟨_, rfl, rfl⟩, ⟨_, rfl, rfl⟩, ⟨_, rfl, rfl⟩, ⟨_, rfl, rfl⟩, ⟨_, rfl, rfl⟩, ⟨_, rfl, rfl⟩, trivial⟩ ⟨.inr rfl, .inr rfl, trivial⟩ rfl rfl))))))
                  · skip
                    refine E.region (EL.run tabOk 4 rfl (EL.split (s := 116) rfl H (fun hb H => ?_) (fun hb H => ?_)))
                    · skip
                      refine EL.run tabOk 4 rfl (EL.split (s := 120) rfl H (fun hb H => ?_) (fun hb H => ?_))
                      · skip
                        refine EL.run tabOk 4 rfl (EL.split (s := 124) rfl H (fun hb H => ?_) (fun hb H => ?_))
                        · skip
                          refine EL.run tabOk 7 rfl (EL.split (s := 131) rfl H (fun hb H => ?_) (fun hb H => ?_))
                          · skip
                            refine EL.run tabOk 4 rfl (EL.split (s := 135) rfl H (fun hb H => ?_) (fun hb H => ?_))
                            · skip
                              exact EL.run tabOk 16 rfl (EL.nil (EX.fewer (hj211 _ _ _ ⟨true, rfl, rfl, (GLe.refl _), H⟩) ⟨⟨_, rfl, rfl⟩, ⟨_, rfl, rfl⟩, ⟨_, rfl, rfl⟩, ⟨_, rfl, rfl⟩, ⟨_, rfl, rfl⟩, ⟨_, rfl, rfl⟩, ⟨_, rfl, rfl⟩, ⟨_, rfl, rfl⟩, ⟨_, rfl, rfl⟩, ⟨_, rfl, rfl⟩, ⟨_, rfl, rfl⟩, ⟨_, rfl, rfl⟩, ⟨_, rfl, rfl⟩, ⟨_, rfl, rfl⟩, ⟨_, rfl, rfl⟩, trivial⟩ ⟨.inr rfl, .inr rfl, .inr rfl, trivial⟩ rfl rfl))
                            · skip
                              refine EL.run tabOk 8 rfl (EL.split (s := 143) rfl H (fun hb H => ?_) (fun hb H => ?_))
                              · skip
                                exact EL.run tabOk 8 rfl (EL.nil (EX.fewer (hj211 _ _ _ ⟨true, rfl, rfl, (GLe.refl _), H⟩) ⟨⟨_, rfl, rfl⟩, ⟨_, rfl, rfl⟩, ⟨_, rfl, rfl⟩, ⟨_, rfl, rfl⟩, ⟨_, rfl, rfl⟩, ⟨_, rfl, rfl⟩, ⟨_, rfl, rfl⟩, ⟨_, rfl, rfl⟩, ⟨_, rfl, rfl⟩, ⟨_, rfl, rfl⟩, ⟨_, rfl, rfl⟩, ⟨_, rfl, rfl⟩, ⟨_, rfl, rfl⟩, ⟨_, rfl, rfl⟩, ⟨_, rfl, rfl⟩, trivial⟩ ⟨.inr rfl, .inr rfl, .inr rfl, trivial⟩ rfl rfl))
                              · skip
                                exact EL.run tabOk 8 rfl (EL.nil (EX.fewer (hj211 _ _ _ ⟨decide (x119.2.1 > (wr (x107.2.1 + y203.Cost))), rfl, rfl, (GLe.refl _), H⟩) ⟨⟨_, rfl, rfl⟩, ⟨_, rfl, rfl⟩, ⟨_, rfl, rfl⟩, ⟨_, rfl, rfl⟩, ⟨_, rfl, rfl⟩, ⟨_, rfl, rfl⟩, ⟨_, rfl, rfl⟩, ⟨_, rfl, rfl⟩, ⟨_, rfl, rfl⟩, ⟨_, rfl, rfl⟩, ⟨_, rfl, rfl⟩, ⟨_, rfl, rfl⟩, ⟨_, rfl, rfl⟩, ⟨_, rfl, rfl⟩, ⟨_, rfl, rfl⟩, trivial⟩ ⟨.inr rfl, .inr rfl, .inr rfl, trivial⟩ rfl rfl))
                          · skip
                            exact EL.run tabOk 20 rfl (EL.nil (EX.fewer (hj211 _ _ _ ⟨false, rfl, rfl, (GLe.refl _), H⟩) ⟨⟨_, rfl, rfl⟩, ⟨_, rfl, rfl⟩, ⟨_, rfl, rfl⟩, ⟨_, rfl, rfl⟩, ⟨_, rfl, rfl⟩, ⟨_, rfl, rfl⟩, ⟨_, rfl, rfl⟩, ⟨_, rfl, rfl⟩, ⟨_, rfl, rfl⟩, ⟨_, rfl, rfl⟩, ⟨_, rfl, rfl⟩, ⟨_, rfl, rfl⟩, ⟨_, rfl, rfl⟩, ⟨_, rfl, rfl⟩, ⟨_, rfl, rfl⟩, trivial⟩ ⟨.inr rfl, .inr rfl, .inr rfl, trivial⟩ rfl rfl))
                        · skip
                          exact EL.run tabOk 27 rfl (EL.nil (EX.fewer (hj211 _ _ _ ⟨false, rfl, rfl, (GLe.refl _), H⟩) ⟨⟨_, rfl, rfl⟩, ⟨_, rfl, rfl⟩, ⟨_, rfl, rfl⟩, ⟨_, rfl, rfl⟩, ⟨_, rfl, rfl⟩, ⟨_, rfl, rfl⟩, ⟨_, rfl, rfl⟩, ⟨_, rfl, rfl⟩, ⟨_, rfl, rfl⟩, ⟨_, rfl, rfl⟩, ⟨_, rfl, rfl⟩, ⟨_, rfl, rfl⟩, ⟨_, rfl, rfl⟩, ⟨_, rfl, rfl⟩, ⟨_, rfl, rfl⟩, trivial⟩ ⟨.inr rfl, .inr rfl, .inr rfl, trivial⟩ rfl rfl))
                      · skip
                        exact EL.run tabOk 31 rfl (EL.nil (EX.fewer (hj211 _ _ _ ⟨false, rfl, rfl, (GLe.refl _), H⟩) ⟨⟨_, rfl, rfl⟩, ⟨_, rfl, rfl⟩, ⟨_, rfl, rfl⟩, ⟨_, rfl, rfl⟩, ⟨_, rfl, rfl⟩, ⟨_, rfl, rfl⟩, ⟨_, rfl, rfl⟩, ⟨_, rfl, rfl⟩, ⟨_, rfl, rfl⟩, ⟨_, rfl, rfl⟩, ⟨_, rfl, rfl⟩, ⟨_, rfl, rfl⟩, ⟨_, rfl, rfl⟩, ⟨_, rfl, rfl⟩, ⟨_, rfl, rfl⟩, trivial⟩ ⟨.inr rfl, .inr rfl, .inr rfl, trivial⟩ rfl rfl))
                    · skip
                      exact EL.run tabOk 35 rfl (EL.nil (EX.fewer (hj211 _ _ _ ⟨false, rfl, rfl, (GLe.refl _), H⟩) ⟨⟨_, rfl, rfl⟩, ⟨_, rfl, rfl⟩, ⟨_, rfl, rfl⟩, ⟨_, rfl, rfl⟩, ⟨_, rfl, rfl⟩, ⟨_, rfl, rfl⟩, ⟨_, rfl, rfl⟩, ⟨_, rfl, rfl⟩, ⟨_, rfl, rfl⟩, ⟨_, rfl, rfl⟩, ⟨_, rfl, rfl⟩, ⟨_, rfl, rfl⟩, ⟨_, rfl, rfl⟩, ⟨_, rfl, rfl⟩, ⟨_, rfl, rfl⟩, trivial⟩ ⟨.inr rfl, .inr rfl, .inr rfl, trivial⟩ rfl rfl))
                · skip
                  exact E.exit (EX.out (EX.out (EX.hit (EX.fewer (hj194 _ _ _ ⟨rfl, rfl, hle198, H⟩) ⟨⟨_, rfl, rfl⟩, ⟨_, rfl, rfl⟩, ⟨_, rfl, rfl⟩, ⟨_, rfl, rfl⟩, ⟨_, rfl, rfl⟩, ⟨_, rfl, rfl⟩, ⟨_, rfl, rfl⟩, ⟨_, rfl, rfl⟩, ⟨_, rfl, rfl⟩, ⟨_, rfl, rfl⟩, trivial⟩ ⟨.inr rfl, .inr rfl, trivial⟩ rfl rfl))))
            · skip
              exact E.exit (EX.out (EX.out (EX.hit (EX.fewer (hj152 _ _ _ ⟨rfl, rfl, hle171, H⟩) ⟨⟨_, rfl, rfl⟩, ⟨_, rfl, rfl⟩, ⟨_, rfl, rfl⟩, ⟨_, rfl, rfl⟩, trivial⟩ ⟨.inr rfl, trivial⟩ rfl rfl))))
      · skip
        refine E.region (EL.run tabOk 3 rfl (EL.split (s := 87) rfl H (fun hb H => ?_) (fun hb H => ?_)))
        · skip
          exact EL.run tabOk 3 rfl (EL.nil (EX.fewer (hj138 _ _ _ ⟨true, rfl, rfl, (GLe.refl _), H⟩) ⟨⟨_, rfl, rfl⟩, ⟨_, rfl, rfl⟩, ⟨_, rfl, rfl⟩, ⟨_, rfl, rfl⟩, ⟨_, rfl, rfl⟩, ⟨_, rfl, rfl⟩, ⟨_, rfl, rfl⟩, ⟨_, rfl, rfl⟩, trivial⟩ ⟨.inr rfl, trivial⟩ rfl rfl))
        · skip
          obtain ⟨x214, hx215, H⟩ := bind_some H
          refine EL.call rfl rfl rfl rfl law16_alive_enters (fun w hw => law16_alive_ok hx215 hw ) (fun v218 G217 hle216 hv219 => ?_)
          have h17 := Rep.mono hle216 h17; have h20 := Rep.mono hle216 h20
          obtain rfl : _ = _ := hv219
          exact EL.run tabOk 2 rfl (EL.nil (EX.fewer (hj138 _ _ _ ⟨!x214, rfl, rfl, hle216, H⟩) ⟨⟨_, rfl, rfl⟩, ⟨_, rfl, rfl⟩, ⟨_, rfl, rfl⟩, ⟨_, rfl, rfl⟩, ⟨_, rfl, rfl⟩, ⟨_, rfl, rfl⟩, ⟨_, rfl, rfl⟩, ⟨_, rfl, rfl⟩, trivial⟩ ⟨.inr rfl, trivial⟩ rfl rfl))
end Go.Proofs.Ytdiclbejalelfaa
