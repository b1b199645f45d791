/- PRINTED by a program of the claim's own: the types of the seat, and Go's functions as Lean functions, each with the proof that a call of it comes to that. -/
import Derived.Test.YtafjcdpkanigaaaT1
set_option linter.unusedVariables false
set_option linter.unusedSimpArgs false
set_option maxRecDepth 100000
namespace Go.Proofs.Ytafjcdpkanigaaa
open Go.RowKit
open Rep (R)
theorem law08_FdbLearns_enters : Enters Try.prog 3 := ⟨_, Try.func3, rfl, rfl⟩
set_option maxHeartbeats 4000000 in
theorem law08_FdbLearns_ok {k : Nat} {p0 : Int} {p1 : Int} {p2 : Int} {p3 : Table} {p4 : Int} {p5 : Int} {p6 : Int} {r : Bool} (H : law08_FdbLearns k p0 p1 p2 p3 p4 p5 p6 = some r) {G : Ghost} {w : World} (hG : Holds G w) {v3 : Value} (h3 : R G p3 v3) : Ret Try.prog 3 [.int .i64 p0, .int .i64 p1, .int .i64 p2, v3, .int .i64 p4, .int .i64 p5, .int .i64 p6] w G (fun G v => R G r v) := by
  obtain ⟨v4, rfl, h3⟩ := h3
  obtain ⟨A1, c2, rfl, h3⟩ := Sl.open h3
  unfold law08_FdbLearns at H
  refine start Try.func3 rfl Try.ntmps3 rfl hG (E.seq (E.region (EL.run tabOk 2 rfl (EL.nil (EX.seq (E.seq (E.region (EL.run tabOk 1 rfl ?_))))))))
  obtain ⟨x5, hx6, H⟩ := bind_some H
  refine EL.call rfl rfl rfl rfl law08_few_enters (fun w hw => law08_few_ok hx6 hw ⟨_, rfl, h3⟩) (fun v9 G8 hle7 hv10 => ?_)
  have h3 := Rep.mono hle7 h3
  obtain ⟨v14, rfl, h13⟩ := hv10
  obtain ⟨A11, c12, rfl, h13⟩ := Sl.open h13
  refine EL.run tabOk 1 rfl (EL.nil (EX.seq (E.seq (E.region (EL.run tabOk 3 rfl ?_)))))
  obtain ⟨x15, hx16, H⟩ := bind_some H
  refine EL.call rfl rfl rfl rfl fdb_New_enters (fun w hw => fdb_New_ok hx16 hw ) (fun v19 G18 hle17 hv20 => ?_)
  have h13 := Rep.mono hle17 h13
  obtain ⟨u21, u22, rfl, h23, h24⟩ := hv20
  obtain ⟨v28, rfl, h27⟩ := h23
  obtain ⟨A25, c26, rfl, h27⟩ := Sl.open h27
  obtain rfl : _ = _ := h24
  refine EL.run tabOk 6 rfl (EL.nil (EX.seq (E.seq (E.region (EL.run tabOk 4 rfl ?_)))))
  obtain ⟨x29, hx30, H⟩ := bind_some H
  refine EL.call rfl rfl rfl rfl fdb_Learn_enters (fun w hw => fdb_Learn_ok hx30 hw ⟨_, rfl, h13⟩) (fun v33 G32 hle31 hv34 => ?_)
  have h13 := Rep.mono hle31 h13; have h27 := Rep.mono hle31 h27
  obtain ⟨u35, u36, rfl, h37, h38⟩ := hv34
  obtain ⟨v42, rfl, h41⟩ := h37
  obtain ⟨A39, c40, rfl, h41⟩ := Sl.open h41
  obtain rfl : _ = _ := h38
  refine EL.run tabOk 6 rfl (EL.nil (EX.seq (E.seq (E.region (EL.run tabOk 3 rfl ?_)))))
  obtain ⟨x43, hx44, H⟩ := bind_some H
  refine EL.call rfl rfl rfl rfl fdb_Find_enters (fun w hw => fdb_Find_ok hx44 hw ⟨_, rfl, h13⟩) (fun v47 G46 hle45 hv48 => ?_)
  have h13 := Rep.mono hle45 h13; have h27 := Rep.mono hle45 h27; have h41 := Rep.mono hle45 h41
  obtain ⟨u49, u50, rfl, h51, h52⟩ := hv48
  obtain rfl : _ = _ := h51
  obtain rfl : _ = _ := h52
  refine EL.run tabOk 5 rfl (EL.nil (EX.seq (E.seq (E.region (EL.run tabOk 3 rfl (EL.nil (EX.seq (E.seq (E.seq ?_)))))))))
  obtain ⟨x53, hx54, H⟩ := bind_some H
  obtain ⟨x55, hx56, H⟩ := bind_some H
  obtain ⟨hb57, H⟩ | ⟨hb57, H⟩ := bif_some H
  · skip
    refine E.fewer (env' := [(0, some (.v (.int .i64 p0))), (1, some (.v (.int .i64 p1))), (2, some (.v (.int .i64 p2))), (4, some (.v (.int .i64 p4))), (5, some (.v (.int .i64 p5))), (6, some (.v (.int .i64 p6))), (10, some (.p 0 0)), (15, some (.p 1 0)), (16, some (.v (.int .i64 x15.2))), (17, some (.p 2 0)), (18, some (.v (.int .i64 x29.2))), (19, some (.v (.int .i64 x43.1))), (20, some (.v (.int .i64 x43.2))), (21, some (.p 3 0))]) (L' := [.box 24 [.v (.slice A11 x5.Buckets.length c12), .v (.int .i64 x5.Slots), .v (.int .i64 x5.Age)], .box 24 [.v (.slice A25 x15.1.Buckets.length c26), .v (.int .i64 x15.1.Slots), .v (.int .i64 x15.1.Age)], .box 24 [.v (.slice A39 x29.1.Buckets.length c40), .v (.int .i64 x29.1.Slots), .v (.int .i64 x29.1.Age)], .box 24 [.v (.slice none 0 0), .v (.int .i64 0), .v (.int .i64 0)]]) (E.sub' (E.draw mixed (fun (bs : List Bool) (env : Env) (L : List Ent) (Γ : Ghost) => match bs with | [b0', b1', b2', b3', b4', b5', b6', b7', b8'] =>  env = [(47, bif b0' then some (.v (.agg #[.slice A11 x5.Buckets.length c12, .int .i64 x5.Slots, .int .i64 x5.Age])) else none), (48, bif b1' then some (.v (.bool x53)) else none), (49, bif b2' then some (.v (.agg #[.slice A11 x5.Buckets.length c12, .int .i64 x5.Slots, .int .i64 x5.Age])) else none), (50, bif b3' then some (.v (.bool x55)) else none), (51, bif b4' then some (.tt) else none), (52, bif b5' then some (.tt) else none), (53, bif b6' then some (.v undef) else none), (54, bif b7' then some (.v undef) else none), (55, bif b8' then some (.tt) else none), (0, some (.v (.int .i64 p0))), (1, some (.v (.int .i64 p1))), (2, some (.v (.int .i64 p2))), (4, some (.v (.int .i64 p4))), (5, some (.v (.int .i64 p5))), (6, some (.v (.int .i64 p6))), (10, some (.p 0 0)), (15, some (.p 1 0)), (16, some (.v (.int .i64 x15.2))), (17, some (.p 2 0)), (18, some (.v (.int .i64 x29.2))), (19, some (.v (.int .i64 x43.1))), (20, some (.v (.int .i64 x43.2))), (21, some (.p 3 0))] ∧ L = [.box 24 [.v (.slice A11 x5.Buckets.length c12), .v (.int .i64 x5.Slots), .v (.int .i64 x5.Age)], .box 24 [.v (.slice A25 x15.1.Buckets.length c26), .v (.int .i64 x15.1.Slots), .v (.int .i64 x15.1.Age)], .box 24 [.v (.slice A39 x29.1.Buckets.length c40), .v (.int .i64 x29.1.Slots), .v (.int .i64 x29.1.Age)], .box 24 [.v (.slice none 0 0), .v (.int .i64 0), .v (.int .i64 0)]] ∧ GLe G46 Γ | _ => False) ⟨rfl, rfl, GLe.refl _⟩ rfl ?_ ?_) ⟨rfl, rfl, rfl, rfl, rfl, rfl, rfl, rfl, rfl, rfl, rfl, rfl, rfl, rfl, rfl, rfl, rfl, rfl, rfl, rfl, rfl, rfl, rfl, trivial⟩) ⟨⟨_, rfl, rfl⟩, ⟨_, rfl, rfl⟩, ⟨_, rfl, rfl⟩, ⟨_, rfl, rfl⟩, ⟨_, rfl, rfl⟩, ⟨_, rfl, rfl⟩, ⟨_, rfl, rfl⟩, ⟨_, rfl, rfl⟩, ⟨_, rfl, rfl⟩, ⟨_, rfl, rfl⟩, ⟨_, rfl, rfl⟩, ⟨_, rfl, rfl⟩, ⟨_, rfl, rfl⟩, ⟨_, rfl, rfl⟩, trivial⟩ ⟨.inr rfl, .inr rfl, .inr rfl, .inr rfl, trivial⟩ rfl rfl
    · refine ⟨?_, ?_, ?_, ?_, ?_, ?_, ?_, ?_, ?_, trivial⟩
      · intro b0' b1' b2' b3' b4' b5' b6' b7' b8'
        rintro ⟨⟩ ⟨⟩
        rintro _ _ G59 ⟨rfl, rfl, hle58⟩ K hK
        have h13 := Rep.mono hle58 h13
        exact EL.step tabOk rfl (EL.nil (EX.sub' (hK _ _ _ ⟨rfl, rfl, hle58⟩) ⟨rfl, rfl, rfl, rfl, rfl, rfl, rfl, rfl, rfl, rfl, rfl, rfl, rfl, rfl, rfl, rfl, rfl, rfl, rfl, rfl, rfl, rfl, rfl, trivial⟩))
      · intro b0' b1' b2' b3' b4' b5' b6' b7' b8'
        rintro ⟨⟩ ⟨⟩ ⟨⟩ ⟨⟩
        rintro _ _ G61 ⟨rfl, rfl, hle60⟩ K hK
        have h13 := Rep.mono hle60 h13
        refine EL.call rfl rfl rfl rfl fdb_Right_enters (fun w hw => fdb_Right_ok hx54 hw ⟨_, rfl, h13⟩) (fun v62 G65 hle64 hv63 => ?_)
        obtain rfl : _ = _ := hv63
        exact EL.nil (EX.sub' (hK _ _ _ ⟨rfl, rfl, (GLe.trans hle60 hle64)⟩) ⟨rfl, rfl, rfl, rfl, rfl, rfl, rfl, rfl, rfl, rfl, rfl, rfl, rfl, rfl, rfl, rfl, rfl, rfl, rfl, rfl, rfl, rfl, rfl, trivial⟩)
      · intro b0' b1' b2' b3' b4' b5' b6' b7' b8'
        rintro ⟨⟩ ⟨⟩
        rintro _ _ G67 ⟨rfl, rfl, hle66⟩ K hK
        have h13 := Rep.mono hle66 h13
        exact EL.step tabOk rfl (EL.nil (EX.sub' (hK _ _ _ ⟨rfl, rfl, hle66⟩) ⟨rfl, rfl, rfl, rfl, rfl, rfl, rfl, rfl, rfl, rfl, rfl, rfl, rfl, rfl, rfl, rfl, rfl, rfl, rfl, rfl, rfl, rfl, rfl, trivial⟩))
      · intro b0' b1' b2' b3' b4' b5' b6' b7' b8'
        rintro ⟨⟩ ⟨⟩ ⟨⟩ ⟨⟩ ⟨⟩
        rintro _ _ G69 ⟨rfl, rfl, hle68⟩ K hK
        have h13 := Rep.mono hle68 h13
        refine EL.call rfl rfl rfl rfl ref08_Right_enters (fun w hw => ref08_Right_ok hx56 hw ⟨_, rfl, h13⟩) (fun v70 G73 hle72 hv71 => ?_)
        obtain rfl : _ = _ := hv71
        exact EL.nil (EX.sub' (hK _ _ _ ⟨rfl, rfl, (GLe.trans hle68 hle72)⟩) ⟨rfl, rfl, rfl, rfl, rfl, rfl, rfl, rfl, rfl, rfl, rfl, rfl, rfl, rfl, rfl, rfl, rfl, rfl, rfl, rfl, rfl, rfl, rfl, trivial⟩)
      · intro b0' b1' b2' b3' b4' b5' b6' b7' b8'
        rintro ⟨⟩ ⟨⟩ ⟨⟩ ⟨⟩
        rintro _ _ G75 ⟨rfl, rfl, hle74⟩ K hK
        exact EL.step tabOk rfl (EL.known 51 rfl (c := true) hb57 (EL.nil (EX.sub' (hK _ _ _ ⟨rfl, rfl, hle74⟩) ⟨rfl, rfl, rfl, rfl, rfl, rfl, rfl, rfl, rfl, rfl, rfl, rfl, rfl, rfl, rfl, rfl, rfl, rfl, rfl, rfl, rfl, rfl, rfl, trivial⟩)))
      · intro b0' b1' b2' b3' b4' b5' b6' b7' b8'
        rintro ⟨⟩ ⟨⟩ ⟨⟩ ⟨⟩ ⟨⟩ ⟨⟩
        rintro _ _ G77 ⟨rfl, rfl, hle76⟩ K hK
        exact EL.step tabOk rfl (EL.nil (EX.sub' (hK _ _ _ ⟨rfl, rfl, hle76⟩) ⟨rfl, rfl, rfl, rfl, rfl, rfl, rfl, rfl, rfl, rfl, rfl, rfl, rfl, rfl, rfl, rfl, rfl, rfl, rfl, rfl, rfl, rfl, rfl, trivial⟩))
      · intro b0' b1' b2' b3' b4' b5' b6' b7' b8'
        rintro ⟨⟩ ⟨⟩ ⟨⟩ ⟨⟩
        rintro _ _ G79 ⟨rfl, rfl, hle78⟩ K hK
        exact EL.step tabOk rfl (EL.nil (EX.sub' (hK _ _ _ ⟨rfl, rfl, hle78⟩) ⟨rfl, rfl, rfl, rfl, rfl, rfl, rfl, rfl, rfl, rfl, rfl, rfl, rfl, rfl, rfl, rfl, rfl, rfl, rfl, rfl, rfl, rfl, rfl, trivial⟩))
      · intro b0' b1' b2' b3' b4' b5' b6' b7' b8'
        rintro ⟨⟩ ⟨⟩ ⟨⟩ ⟨⟩
        rintro _ _ G81 ⟨rfl, rfl, hle80⟩ K hK
        exact EL.step tabOk rfl (EL.nil (EX.sub' (hK _ _ _ ⟨rfl, rfl, hle80⟩) ⟨rfl, rfl, rfl, rfl, rfl, rfl, rfl, rfl, rfl, rfl, rfl, rfl, rfl, rfl, rfl, rfl, rfl, rfl, rfl, rfl, rfl, rfl, rfl, trivial⟩))
      · intro b0' b1' b2' b3' b4' b5' b6' b7' b8'
        rintro ⟨⟩ ⟨⟩ ⟨⟩
        rintro _ _ G83 ⟨rfl, rfl, hle82⟩ K hK
        exact EL.step tabOk rfl (EL.nil (EX.sub' (hK _ _ _ ⟨rfl, rfl, hle82⟩) ⟨rfl, rfl, rfl, rfl, rfl, rfl, rfl, rfl, rfl, rfl, rfl, rfl, rfl, rfl, rfl, rfl, rfl, rfl, rfl, rfl, rfl, rfl, rfl, trivial⟩))
    rintro _ _ G85 ⟨rfl, rfl, hle84⟩
    have h13 := Rep.mono hle84 h13
    have h27 := Rep.mono hle84 h27
    have h41 := Rep.mono hle84 h41
    exact EX.seq (E.condT rfl (E.seq (E.region (EL.run tabOk 1 rfl (EL.nil (EX.seq (E.ret (EX.retT (EX.retE H tabOk rfl rfl)))))))))
  · skip
    obtain ⟨x86, hx87, H⟩ := bind_some H
    refine E.fewer (env' := [(0, some (.v (.int .i64 p0))), (1, some (.v (.int .i64 p1))), (2, some (.v (.int .i64 p2))), (4, some (.v (.int .i64 p4))), (5, some (.v (.int .i64 p5))), (6, some (.v (.int .i64 p6))), (10, some (.p 0 0)), (15, some (.p 1 0)), (16, some (.v (.int .i64 x15.2))), (17, some (.p 2 0)), (18, some (.v (.int .i64 x29.2))), (19, some (.v (.int .i64 x43.1))), (20, some (.v (.int .i64 x43.2))), (21, some (.p 3 0))]) (L' := [.box 24 [.v (.slice A11 x5.Buckets.length c12), .v (.int .i64 x5.Slots), .v (.int .i64 x5.Age)], .box 24 [.v (.slice A25 x15.1.Buckets.length c26), .v (.int .i64 x15.1.Slots), .v (.int .i64 x15.1.Age)], .box 24 [.v (.slice A39 x29.1.Buckets.length c40), .v (.int .i64 x29.1.Slots), .v (.int .i64 x29.1.Age)], .box 24 [.v (.slice none 0 0), .v (.int .i64 0), .v (.int .i64 0)]]) (E.sub' (E.draw mixed (fun (bs : List Bool) (env : Env) (L : List Ent) (Γ : Ghost) => match bs with | [b0', b1', b2', b3', b4', b5', b6', b7', b8'] =>  env = [(47, bif b0' then some (.v (.agg #[.slice A11 x5.Buckets.length c12, .int .i64 x5.Slots, .int .i64 x5.Age])) else none), (48, bif b1' then some (.v (.bool x53)) else none), (49, bif b2' then some (.v (.agg #[.slice A11 x5.Buckets.length c12, .int .i64 x5.Slots, .int .i64 x5.Age])) else none), (50, bif b3' then some (.v (.bool x55)) else none), (51, bif b4' then some (.ff) else none), (52, bif b5' then some (.ff) else none), (53, bif b6' then some (.v (.bool x86)) else none), (54, bif b7' then some (.v (.bool (!x86))) else none), (55, bif b8' then some (.v (.bool (!x86))) else none), (0, some (.v (.int .i64 p0))), (1, some (.v (.int .i64 p1))), (2, some (.v (.int .i64 p2))), (4, some (.v (.int .i64 p4))), (5, some (.v (.int .i64 p5))), (6, some (.v (.int .i64 p6))), (10, some (.p 0 0)), (15, some (.p 1 0)), (16, some (.v (.int .i64 x15.2))), (17, some (.p 2 0)), (18, some (.v (.int .i64 x29.2))), (19, some (.v (.int .i64 x43.1))), (20, some (.v (.int .i64 x43.2))), (21, some (.p 3 0))] ∧ L = [.box 24 [.v (.slice A11 x5.Buckets.length c12), .v (.int .i64 x5.Slots), .v (.int .i64 x5.Age)], .box 24 [.v (.slice A25 x15.1.Buckets.length c26), .v (.int .i64 x15.1.Slots), .v (.int .i64 x15.1.Age)], .box 24 [.v (.slice A39 x29.1.Buckets.length c40), .v (.int .i64 x29.1.Slots), .v (.int .i64 x29.1.Age)], .box 24 [.v (.slice none 0 0), .v (.int .i64 0), .v (.int .i64 0)]] ∧ GLe G46 Γ | _ => False) ⟨rfl, rfl, GLe.refl _⟩ rfl ?_ ?_) ⟨rfl, rfl, rfl, rfl, rfl, rfl, rfl, rfl, rfl, rfl, rfl, rfl, rfl, rfl, rfl, rfl, rfl, rfl, rfl, rfl, rfl, rfl, rfl, trivial⟩) ⟨⟨_, rfl, rfl⟩, ⟨_, rfl, rfl⟩, ⟨_, rfl, rfl⟩, ⟨_, rfl, rfl⟩, ⟨_, rfl, rfl⟩, ⟨_, rfl, rfl⟩, ⟨_, rfl, rfl⟩, ⟨_, rfl, rfl⟩, ⟨_, rfl, rfl⟩, ⟨_, rfl, rfl⟩, ⟨_, rfl, rfl⟩, ⟨_, rfl, rfl⟩, ⟨_, rfl, rfl⟩, ⟨_, rfl, rfl⟩, trivial⟩ ⟨.inr rfl, .inr rfl, .inr rfl, .inr rfl, trivial⟩ rfl rfl
    · refine ⟨?_, ?_, ?_, ?_, ?_, ?_, ?_, ?_, ?_, trivial⟩
      · intro b0' b1' b2' b3' b4' b5' b6' b7' b8'
        rintro ⟨⟩ ⟨⟩
        rintro _ _ G89 ⟨rfl, rfl, hle88⟩ K hK
        have h13 := Rep.mono hle88 h13
        exact EL.step tabOk rfl (EL.nil (EX.sub' (hK _ _ _ ⟨rfl, rfl, hle88⟩) ⟨rfl, rfl, rfl, rfl, rfl, rfl, rfl, rfl, rfl, rfl, rfl, rfl, rfl, rfl, rfl, rfl, rfl, rfl, rfl, rfl, rfl, rfl, rfl, trivial⟩))
      · intro b0' b1' b2' b3' b4' b5' b6' b7' b8'
        rintro ⟨⟩ ⟨⟩ ⟨⟩ ⟨⟩
        rintro _ _ G91 ⟨rfl, rfl, hle90⟩ K hK
        have h13 := Rep.mono hle90 h13
        refine EL.call rfl rfl rfl rfl fdb_Right_enters (fun w hw => fdb_Right_ok hx54 hw ⟨_, rfl, h13⟩) (fun v92 G95 hle94 hv93 => ?_)
        obtain rfl : _ = _ := hv93
        exact EL.nil (EX.sub' (hK _ _ _ ⟨rfl, rfl, (GLe.trans hle90 hle94)⟩) ⟨rfl, rfl, rfl, rfl, rfl, rfl, rfl, rfl, rfl, rfl, rfl, rfl, rfl, rfl, rfl, rfl, rfl, rfl, rfl, rfl, rfl, rfl, rfl, trivial⟩)
      · intro b0' b1' b2' b3' b4' b5' b6' b7' b8'
        rintro ⟨⟩ ⟨⟩
        rintro _ _ G97 ⟨rfl, rfl, hle96⟩ K hK
        have h13 := Rep.mono hle96 h13
        exact EL.step tabOk rfl (EL.nil (EX.sub' (hK _ _ _ ⟨rfl, rfl, hle96⟩) ⟨rfl, rfl, rfl, rfl, rfl, rfl, rfl, rfl, rfl, rfl, rfl, rfl, rfl, rfl, rfl, rfl, rfl, rfl, rfl, rfl, rfl, rfl, rfl, trivial⟩))
      · intro b0' b1' b2' b3' b4' b5' b6' b7' b8'
        rintro ⟨⟩ ⟨⟩ ⟨⟩ ⟨⟩ ⟨⟩
        rintro _ _ G99 ⟨rfl, rfl, hle98⟩ K hK
        have h13 := Rep.mono hle98 h13
        refine EL.call rfl rfl rfl rfl ref08_Right_enters (fun w hw => ref08_Right_ok hx56 hw ⟨_, rfl, h13⟩) (fun v100 G103 hle102 hv101 => ?_)
        obtain rfl : _ = _ := hv101
        exact EL.nil (EX.sub' (hK _ _ _ ⟨rfl, rfl, (GLe.trans hle98 hle102)⟩) ⟨rfl, rfl, rfl, rfl, rfl, rfl, rfl, rfl, rfl, rfl, rfl, rfl, rfl, rfl, rfl, rfl, rfl, rfl, rfl, rfl, rfl, rfl, rfl, trivial⟩)
      · intro b0' b1' b2' b3' b4' b5' b6' b7' b8'
        rintro ⟨⟩ ⟨⟩ ⟨⟩ ⟨⟩
        rintro _ _ G105 ⟨rfl, rfl, hle104⟩ K hK
        exact EL.step tabOk rfl (EL.known 51 rfl (c := false) hb57 (EL.nil (EX.sub' (hK _ _ _ ⟨rfl, rfl, hle104⟩) ⟨rfl, rfl, rfl, rfl, rfl, rfl, rfl, rfl, rfl, rfl, rfl, rfl, rfl, rfl, rfl, rfl, rfl, rfl, rfl, rfl, rfl, rfl, rfl, trivial⟩)))
      · intro b0' b1' b2' b3' b4' b5' b6' b7' b8'
        rintro ⟨⟩ ⟨⟩ ⟨⟩ ⟨⟩ ⟨⟩ ⟨⟩
        rintro _ _ G107 ⟨rfl, rfl, hle106⟩ K hK
        exact EL.step tabOk rfl (EL.nil (EX.sub' (hK _ _ _ ⟨rfl, rfl, hle106⟩) ⟨rfl, rfl, rfl, rfl, rfl, rfl, rfl, rfl, rfl, rfl, rfl, rfl, rfl, rfl, rfl, rfl, rfl, rfl, rfl, rfl, rfl, rfl, rfl, trivial⟩))
      · intro b0' b1' b2' b3' b4' b5' b6' b7' b8'
        rintro ⟨⟩ ⟨⟩ ⟨⟩ ⟨⟩
        rintro _ _ G109 ⟨rfl, rfl, hle108⟩ K hK
        refine EL.call rfl rfl rfl rfl law08_alive_enters (fun w hw => law08_alive_ok hx87 hw ) (fun v110 G113 hle112 hv111 => ?_)
        obtain rfl : _ = _ := hv111
        exact EL.nil (EX.sub' (hK _ _ _ ⟨rfl, rfl, (GLe.trans hle108 hle112)⟩) ⟨rfl, rfl, rfl, rfl, rfl, rfl, rfl, rfl, rfl, rfl, rfl, rfl, rfl, rfl, rfl, rfl, rfl, rfl, rfl, rfl, rfl, rfl, rfl, trivial⟩)
      · intro b0' b1' b2' b3' b4' b5' b6' b7' b8'
        rintro ⟨⟩ ⟨⟩ ⟨⟩ ⟨⟩
        rintro _ _ G115 ⟨rfl, rfl, hle114⟩ K hK
        exact EL.step tabOk rfl (EL.nil (EX.sub' (hK _ _ _ ⟨rfl, rfl, hle114⟩) ⟨rfl, rfl, rfl, rfl, rfl, rfl, rfl, rfl, rfl, rfl, rfl, rfl, rfl, rfl, rfl, rfl, rfl, rfl, rfl, rfl, rfl, rfl, rfl, trivial⟩))
      · intro b0' b1' b2' b3' b4' b5' b6' b7' b8'
        rintro ⟨⟩ ⟨⟩ ⟨⟩
        rintro _ _ G117 ⟨rfl, rfl, hle116⟩ K hK
        exact EL.step tabOk rfl (EL.nil (EX.sub' (hK _ _ _ ⟨rfl, rfl, hle116⟩) ⟨rfl, rfl, rfl, rfl, rfl, rfl, rfl, rfl, rfl, rfl, rfl, rfl, rfl, rfl, rfl, rfl, rfl, rfl, rfl, rfl, rfl, rfl, rfl, trivial⟩))
    rintro _ _ G119 ⟨rfl, rfl, hle118⟩
    have h13 := Rep.mono hle118 h13
    have h27 := Rep.mono hle118 h27
    have h41 := Rep.mono hle118 h41
    refine EX.seq (E.cond rfl H (fun hb H => ?_) (fun hb H => ?_))
    · skip
      exact E.seq (E.region (EL.run tabOk 1 rfl (EL.nil (EX.seq (E.ret (EX.retT (EX.retE H tabOk rfl rfl)))))))
    · skip
      refine E.skip (EX.seq (E.seq (E.seq (E.region (EL.run tabOk 3 rfl ?_)))))
      obtain ⟨x120, hx121, H⟩ := bind_some H
      refine EL.call rfl rfl rfl rfl ref08_Sizes_enters (fun w hw => ref08_Sizes_ok hx121 hw ) (fun v124 G123 hle122 hv125 => ?_)
      have h13 := Rep.mono hle122 h13; have h27 := Rep.mono hle122 h27; have h41 := Rep.mono hle122 h41
      obtain rfl : _ = _ := hv125
      refine EL.run tabOk 1 rfl (EL.nil (EX.seq (E.join (fun env L Γ =>  env = [(4, some (.v (.int .i64 p4))), (5, some (.v (.int .i64 p5))), (6, some (.v (.int .i64 p6))), (10, some (.p 0 0)), (17, some (.p 2 0)), (18, some (.v (.int .i64 x29.2))), (19, some (.v (.int .i64 x43.1))), (20, some (.v (.int .i64 x43.2))), (21, some (.p 3 0))] ∧ L = [.box 24 [.v (.slice A11 x5.Buckets.length c12), .v (.int .i64 x5.Slots), .v (.int .i64 x5.Age)], .box 24 [.v (.slice A25 x15.1.Buckets.length c26), .v (.int .i64 x15.1.Slots), .v (.int .i64 x15.1.Age)], .box 24 [.v (.slice A39 x29.1.Buckets.length c40), .v (.int .i64 x29.1.Slots), .v (.int .i64 x29.1.Age)], .box 24 [.v (.slice none 0 0), .v (.int .i64 0), .v (.int .i64 0)]] ∧ GLe G123 Γ ∧ law08_FdbLearns_j1 k p4 p5 p6 x5 x29 x43 = some r) ?_ (fun hj126 => ?_))))
      · skip
        rintro _ _ G128 ⟨rfl, rfl, hle127, H⟩
        unfold law08_FdbLearns_j1 at H
        have h13 := Rep.mono hle127 h13; have h27 := Rep.mono hle127 h27; have h41 := Rep.mono hle127 h41
        refine EX.seq (E.seq (E.seq (E.region (EL.run tabOk 1 rfl ?_))))
        obtain ⟨x129, hx130, H⟩ := bind_some H
        refine EL.call rfl rfl rfl rfl ref08_Right_enters (fun w hw => ref08_Right_ok hx130 hw ⟨_, rfl, h13⟩) (fun v133 G132 hle131 hv134 => ?_)
        have h13 := Rep.mono hle131 h13; have h27 := Rep.mono hle131 h27; have h41 := Rep.mono hle131 h41
        obtain rfl : _ = _ := hv134
        refine EL.run tabOk 2 rfl (EL.split (s := 83) rfl H (fun hb H => ?_) (fun hb H => ?_))
        · skip
          refine EL.run tabOk 9 rfl (EL.nil (EX.seq (E.condT rfl (E.seq (E.region (EL.run tabOk 7 rfl (EL.split (s := 99) rfl H (fun hb H => ?_) (fun hb H => ?_))))))))
          · skip
            refine EL.run tabOk 2 rfl ?_
            obtain ⟨x135, hx136, H⟩ := bind_some H
            refine EL.call rfl rfl rfl rfl ref08_Same_enters (fun w hw => ref08_Same_ok hx136 hw ⟨_, rfl, h41⟩ ⟨_, rfl, (Sl.nil _)⟩) (fun v139 G138 hle137 hv140 => ?_)
            have h13 := Rep.mono hle137 h13; have h27 := Rep.mono hle137 h27; have h41 := Rep.mono hle137 h41
            obtain rfl : _ = _ := hv140
            exact EL.run tabOk 6 rfl (EL.nil (EX.seq (E.ret (EX.retT (EX.retE H tabOk rfl rfl)))))
          · skip
            exact EL.run tabOk 9 rfl (EL.nil (EX.seq (E.ret (EX.retT (EX.retE H tabOk rfl rfl)))))
        · skip
          refine EL.run tabOk 1 rfl ?_
          obtain ⟨x141, hx142, H⟩ := bind_some H
          refine EL.call rfl rfl rfl rfl ref08_Mac_enters (fun w hw => ref08_Mac_ok hx142 hw ) (fun v145 G144 hle143 hv146 => ?_)
          have h13 := Rep.mono hle143 h13; have h27 := Rep.mono hle143 h27; have h41 := Rep.mono hle143 h41
          obtain rfl : _ = _ := hv146
          refine EL.run tabOk 3 rfl (EL.split (s := 88) rfl H (fun hb H => ?_) (fun hb H => ?_))
          · skip
            refine EL.run tabOk 4 rfl (EL.nil (EX.seq (E.condT rfl (E.seq (E.region (EL.run tabOk 7 rfl (EL.split (s := 99) rfl H (fun hb H => ?_) (fun hb H => ?_))))))))
            · skip
              refine EL.run tabOk 2 rfl ?_
              obtain ⟨x147, hx148, H⟩ := bind_some H
              refine EL.call rfl rfl rfl rfl ref08_Same_enters (fun w hw => ref08_Same_ok hx148 hw ⟨_, rfl, h41⟩ ⟨_, rfl, (Sl.nil _)⟩) (fun v151 G150 hle149 hv152 => ?_)
              have h13 := Rep.mono hle149 h13; have h27 := Rep.mono hle149 h27; have h41 := Rep.mono hle149 h41
              obtain rfl : _ = _ := hv152
              exact EL.run tabOk 6 rfl (EL.nil (EX.seq (E.ret (EX.retT (EX.retE H tabOk rfl rfl)))))
            · skip
              exact EL.run tabOk 9 rfl (EL.nil (EX.seq (E.ret (EX.retT (EX.retE H tabOk rfl rfl)))))
          · skip
            refine EL.run tabOk 1 rfl ?_
            obtain ⟨x153, hx154, H⟩ := bind_some H
            refine EL.call rfl rfl rfl rfl ref08_Time_enters (fun w hw => ref08_Time_ok hx154 hw ) (fun v157 G156 hle155 hv158 => ?_)
            have h13 := Rep.mono hle155 h13; have h27 := Rep.mono hle155 h27; have h41 := Rep.mono hle155 h41
            obtain rfl : _ = _ := hv158
            refine EL.run tabOk 2 rfl (EL.nil (EX.seq (E.cond rfl H (fun hb H => ?_) (fun hb H => ?_))))
            · skip
              refine E.seq (E.region (EL.run tabOk 7 rfl (EL.split (s := 99) rfl H (fun hb H => ?_) (fun hb H => ?_))))
              · skip
                refine EL.run tabOk 2 rfl ?_
                obtain ⟨x159, hx160, H⟩ := bind_some H
                refine EL.call rfl rfl rfl rfl ref08_Same_enters (fun w hw => ref08_Same_ok hx160 hw ⟨_, rfl, h41⟩ ⟨_, rfl, (Sl.nil _)⟩) (fun v163 G162 hle161 hv164 => ?_)
                have h13 := Rep.mono hle161 h13; have h27 := Rep.mono hle161 h27; have h41 := Rep.mono hle161 h41
                obtain rfl : _ = _ := hv164
                exact EL.run tabOk 6 rfl (EL.nil (EX.seq (E.ret (EX.retT (EX.retE H tabOk rfl rfl)))))
              · skip
                exact EL.run tabOk 9 rfl (EL.nil (EX.seq (E.ret (EX.retT (EX.retE H tabOk rfl rfl)))))
            · skip
              refine E.skip (EX.seq (E.seq (E.seq (E.region (EL.run tabOk 3 rfl (EL.split (s := 110) rfl H (fun hb H => ?_) (fun hb H => ?_)))))))
              · skip
                exact EL.run tabOk 7 rfl (EL.nil (EX.seq (E.condT rfl (E.seq (E.region (EL.run tabOk 1 rfl (EL.nil (EX.seq (E.ret (EX.retT (EX.retE H tabOk rfl rfl)))))))))))
              · skip
                refine EL.run tabOk 4 rfl ?_
                obtain ⟨x165, hx166, H⟩ := bind_some H
                refine EL.call rfl rfl rfl rfl ref08_Find_enters (fun w hw => ref08_Find_ok hx166 hw ⟨_, rfl, h13⟩) (fun v169 G168 hle167 hv170 => ?_)
                have h13 := Rep.mono hle167 h13; have h27 := Rep.mono hle167 h27; have h41 := Rep.mono hle167 h41
                obtain rfl : _ = _ := hv170
                refine EL.run tabOk 2 rfl (EL.nil (EX.seq (E.cond rfl H (fun hb H => ?_) (fun hb H => ?_))))
                · skip
                  exact E.seq (E.region (EL.run tabOk 1 rfl (EL.nil (EX.seq (E.ret (EX.retT (EX.retE H tabOk rfl rfl)))))))
                · skip
                  refine E.skip (EX.seq (E.seq (E.seq (E.region (EL.run tabOk 1 rfl ?_)))))
                  obtain ⟨x171, hx172, H⟩ := bind_some H
                  refine EL.call rfl rfl rfl rfl ref08_Port_enters (fun w hw => ref08_Port_ok hx172 hw ) (fun v175 G174 hle173 hv176 => ?_)
                  have h13 := Rep.mono hle173 h13; have h27 := Rep.mono hle173 h27; have h41 := Rep.mono hle173 h41
                  obtain rfl : _ = _ := hv176
                  refine EL.run tabOk 1 rfl (EL.nil (EX.seq (E.cond rfl H (fun hb H => ?_) (fun hb H => ?_))))
                  · skip
                    refine E.seq (E.region (EL.run tabOk 3 rfl (EL.split (s := 123) rfl H (fun hb H => ?_) (fun hb H => ?_))))
                    · skip
                      refine EL.run tabOk 2 rfl ?_
                      obtain ⟨x177, hx178, H⟩ := bind_some H
                      refine EL.call rfl rfl rfl rfl ref08_Same_enters (fun w hw => ref08_Same_ok hx178 hw ⟨_, rfl, h41⟩ ⟨_, rfl, (Sl.nil _)⟩) (fun v181 G180 hle179 hv182 => ?_)
                      have h13 := Rep.mono hle179 h13; have h27 := Rep.mono hle179 h27; have h41 := Rep.mono hle179 h41
                      obtain rfl : _ = _ := hv182
                      exact EL.run tabOk 2 rfl (EL.nil (EX.seq (E.ret (EX.retT (EX.retE H tabOk rfl rfl)))))
                    · skip
                      exact EL.run tabOk 5 rfl (EL.nil (EX.seq (E.ret (EX.retT (EX.retE H tabOk rfl rfl)))))
                  · skip
                    refine E.skip (EX.seq (E.seq ?_))
                    obtain ⟨hb183, H⟩ | ⟨hb183, H⟩ := bif_some H
                    · skip
                      obtain ⟨x184, hx185, H⟩ := bind_some H
                      obtain ⟨x189, hx190, H⟩ := bind_some H
                      refine E.fewer (env' := [(4, some (.v (.int .i64 p4))), (5, some (.v (.int .i64 p5))), (6, some (.v (.int .i64 p6))), (10, some (.p 0 0)), (17, some (.p 2 0)), (18, some (.v (.int .i64 x29.2)))]) (L' := [.box 24 [.v (.slice A11 x5.Buckets.length c12), .v (.int .i64 x5.Slots), .v (.int .i64 x5.Age)], .box 24 [.v (.slice A25 x15.1.Buckets.length c26), .v (.int .i64 x15.1.Slots), .v (.int .i64 x15.1.Age)], .box 24 [.v (.slice A39 x29.1.Buckets.length c40), .v (.int .i64 x29.1.Slots), .v (.int .i64 x29.1.Age)], .box 24 [.v (.slice none 0 0), .v (.int .i64 0), .v (.int .i64 0)]]) (E.sub' (E.draw mixed (fun (bs : List Bool) (env : Env) (L : List Ent) (Γ : Ghost) => match bs with | [b0', b1', b2', b3', b4', b5', b6', b7', b8', b9', b10', b11'] => ∃ (A186 : Option Addr) (c187 : Nat), env = [(128, bif b0' then some (.v (.int .i64 x29.2)) else none), (129, bif b1' then some (.tt) else none), (130, bif b2' then some (.tt) else none), (131, bif b3' then some (.v (.agg #[.slice A39 x29.1.Buckets.length c40, .int .i64 x29.1.Slots, .int .i64 x29.1.Age])) else none), (132, bif b4' then some (.v (.agg #[.slice A11 x5.Buckets.length c12, .int .i64 x5.Slots, .int .i64 x5.Age])) else none), (133, bif b5' then some (.v (.int .i64 p4)) else none), (134, bif b6' then some (.v (.int .i64 p5)) else none), (135, bif b7' then some (.v (.int .i64 p6)) else none), (136, bif b8' then some (.v (.agg #[.slice A186 x184.Buckets.length c187, .int .i64 x184.Slots, .int .i64 x184.Age])) else none), (137, bif b9' then some (.v (.bool x189)) else none), (138, bif b10' then some (.v (.bool x189)) else none), (14, bif b11' then some (.v (.bool x189)) else none), (4, some (.v (.int .i64 p4))), (5, some (.v (.int .i64 p5))), (6, some (.v (.int .i64 p6))), (10, some (.p 0 0)), (17, some (.p 2 0)), (18, some (.v (.int .i64 x29.2)))] ∧ L = [.box 24 [.v (.slice A11 x5.Buckets.length c12), .v (.int .i64 x5.Slots), .v (.int .i64 x5.Age)], .box 24 [.v (.slice A25 x15.1.Buckets.length c26), .v (.int .i64 x15.1.Slots), .v (.int .i64 x15.1.Age)], .box 24 [.v (.slice A39 x29.1.Buckets.length c40), .v (.int .i64 x29.1.Slots), .v (.int .i64 x29.1.Age)], .box 24 [.v (.slice none 0 0), .v (.int .i64 0), .v (.int .i64 0)]] ∧ GLe G174 Γ ∧ (b8' = true → R Γ x184.Buckets (.slice A186 x184.Buckets.length c187)) | _ => False) ⟨none, 0, rfl, rfl, GLe.refl _, (fun h => nomatch h)⟩ rfl ?_ ?_) ⟨rfl, rfl, rfl, rfl, rfl, rfl, rfl, rfl, rfl, rfl, rfl, rfl, rfl, rfl, rfl, rfl, rfl, rfl, trivial⟩) ⟨⟨_, rfl, rfl⟩, ⟨_, rfl, rfl⟩, ⟨_, rfl, rfl⟩, ⟨_, rfl, rfl⟩, ⟨_, rfl, rfl⟩, ⟨_, rfl, rfl⟩, trivial⟩ ⟨.inr rfl, .inr rfl, .inr rfl, .inr rfl, trivial⟩ rfl rfl
                      · refine ⟨?_, ?_, ?_, ?_, ?_, ?_, ?_, ?_, ?_, ?_, ?_, ?_, trivial⟩
                        · intro b0' b1' b2' b3' b4' b5' b6' b7' b8' b9' b10' b11'
                          rintro ⟨⟩ ⟨⟩ ⟨⟩
                          rintro _ _ G192 ⟨A186, c187, rfl, rfl, hle191, fh188⟩ K hK
                          exact EL.step tabOk rfl (EL.nil (EX.sub' (hK _ _ _ ⟨A186, c187, rfl, rfl, hle191, fh188⟩) ⟨rfl, rfl, rfl, rfl, rfl, rfl, rfl, rfl, rfl, rfl, rfl, rfl, rfl, rfl, rfl, rfl, rfl, rfl, trivial⟩))
                        · intro b0' b1' b2' b3' b4' b5' b6' b7' b8' b9' b10' b11'
                          rintro ⟨⟩ ⟨⟩ ⟨⟩ ⟨⟩
                          rintro _ _ G194 ⟨A186, c187, rfl, rfl, hle193, fh188⟩ K hK
                          exact EL.step tabOk rfl (EL.known 129 rfl (c := true) hb183 (EL.nil (EX.sub' (hK _ _ _ ⟨A186, c187, rfl, rfl, hle193, fh188⟩) ⟨rfl, rfl, rfl, rfl, rfl, rfl, rfl, rfl, rfl, rfl, rfl, rfl, rfl, rfl, rfl, rfl, rfl, rfl, trivial⟩)))
                        · intro b0' b1' b2' b3' b4' b5' b6' b7' b8' b9' b10' b11'
                          rintro ⟨⟩ ⟨⟩ ⟨⟩ ⟨⟩ ⟨⟩ ⟨⟩ ⟨⟩ ⟨⟩ ⟨⟩ ⟨⟩ ⟨⟩
                          rintro _ _ G196 ⟨A186, c187, rfl, rfl, hle195, fh188⟩ K hK
                          exact EL.step tabOk rfl (EL.nil (EX.sub' (hK _ _ _ ⟨A186, c187, rfl, rfl, hle195, fh188⟩) ⟨rfl, rfl, rfl, rfl, rfl, rfl, rfl, rfl, rfl, rfl, rfl, rfl, rfl, rfl, rfl, rfl, rfl, rfl, trivial⟩))
                        · intro b0' b1' b2' b3' b4' b5' b6' b7' b8' b9' b10' b11'
                          rintro ⟨⟩ ⟨⟩ ⟨⟩ ⟨⟩
                          rintro _ _ G198 ⟨A186, c187, rfl, rfl, hle197, fh188⟩ K hK
                          have h41 := Rep.mono hle197 h41
                          exact EL.step tabOk rfl (EL.nil (EX.sub' (hK _ _ _ ⟨A186, c187, rfl, rfl, hle197, fh188⟩) ⟨rfl, rfl, rfl, rfl, rfl, rfl, rfl, rfl, rfl, rfl, rfl, rfl, rfl, rfl, rfl, rfl, rfl, rfl, trivial⟩))
                        · intro b0' b1' b2' b3' b4' b5' b6' b7' b8' b9' b10' b11'
                          rintro ⟨⟩ ⟨⟩ ⟨⟩ ⟨⟩
                          rintro _ _ G200 ⟨A186, c187, rfl, rfl, hle199, fh188⟩ K hK
                          have h13 := Rep.mono hle199 h13
                          exact EL.step tabOk rfl (EL.nil (EX.sub' (hK _ _ _ ⟨A186, c187, rfl, rfl, hle199, fh188⟩) ⟨rfl, rfl, rfl, rfl, rfl, rfl, rfl, rfl, rfl, rfl, rfl, rfl, rfl, rfl, rfl, rfl, rfl, rfl, trivial⟩))
                        · intro b0' b1' b2' b3' b4' b5' b6' b7' b8' b9' b10' b11'
                          rintro ⟨⟩ ⟨⟩ ⟨⟩ ⟨⟩
                          rintro _ _ G202 ⟨A186, c187, rfl, rfl, hle201, fh188⟩ K hK
                          exact EL.step tabOk rfl (EL.nil (EX.sub' (hK _ _ _ ⟨A186, c187, rfl, rfl, hle201, fh188⟩) ⟨rfl, rfl, rfl, rfl, rfl, rfl, rfl, rfl, rfl, rfl, rfl, rfl, rfl, rfl, rfl, rfl, rfl, rfl, trivial⟩))
                        · intro b0' b1' b2' b3' b4' b5' b6' b7' b8' b9' b10' b11'
                          rintro ⟨⟩ ⟨⟩ ⟨⟩ ⟨⟩
                          rintro _ _ G204 ⟨A186, c187, rfl, rfl, hle203, fh188⟩ K hK
                          exact EL.step tabOk rfl (EL.nil (EX.sub' (hK _ _ _ ⟨A186, c187, rfl, rfl, hle203, fh188⟩) ⟨rfl, rfl, rfl, rfl, rfl, rfl, rfl, rfl, rfl, rfl, rfl, rfl, rfl, rfl, rfl, rfl, rfl, rfl, trivial⟩))
                        · intro b0' b1' b2' b3' b4' b5' b6' b7' b8' b9' b10' b11'
                          rintro ⟨⟩ ⟨⟩ ⟨⟩ ⟨⟩
                          rintro _ _ G206 ⟨A186, c187, rfl, rfl, hle205, fh188⟩ K hK
                          exact EL.step tabOk rfl (EL.nil (EX.sub' (hK _ _ _ ⟨A186, c187, rfl, rfl, hle205, fh188⟩) ⟨rfl, rfl, rfl, rfl, rfl, rfl, rfl, rfl, rfl, rfl, rfl, rfl, rfl, rfl, rfl, rfl, rfl, rfl, trivial⟩))
                        · intro b0' b1' b2' b3' b4' b5' b6' b7' b8' b9' b10' b11'
                          rintro ⟨⟩ ⟨⟩ ⟨⟩ ⟨⟩ ⟨⟩ ⟨⟩ ⟨⟩ ⟨⟩ ⟨⟩
                          rintro _ _ G208 ⟨A186, c187, rfl, rfl, hle207, fh188⟩ K hK
                          have h13 := Rep.mono hle207 h13
                          refine EL.call rfl rfl rfl rfl ref08_Learn_enters (fun w hw => ref08_Learn_ok hx185 hw ⟨_, rfl, h13⟩) (fun v209 G212 hle211 hv210 => ?_)
                          obtain ⟨v216, rfl, h215⟩ := hv210
                          obtain ⟨A213, c214, rfl, h215⟩ := Sl.open h215
                          exact EL.nil (EX.sub' (hK _ _ _ ⟨A213, c214, rfl, rfl, (GLe.trans hle207 hle211), (fun _ => h215)⟩) ⟨rfl, rfl, rfl, rfl, rfl, rfl, rfl, rfl, rfl, rfl, rfl, rfl, rfl, rfl, rfl, rfl, rfl, rfl, trivial⟩)
                        · intro b0' b1' b2' b3' b4' b5' b6' b7' b8' b9' b10' b11'
                          rintro ⟨⟩ ⟨⟩ ⟨⟩ ⟨⟩ ⟨⟩ ⟨⟩ ⟨⟩
                          rintro _ _ G218 ⟨A186, c187, rfl, rfl, hle217, fh188⟩ K hK
                          have h188 := fh188 rfl
                          have h41 := Rep.mono hle217 h41
                          refine EL.call rfl rfl rfl rfl ref08_Same_enters (fun w hw => ref08_Same_ok hx190 hw ⟨_, rfl, h41⟩ ⟨_, rfl, h188⟩) (fun v219 G222 hle221 hv220 => ?_)
                          obtain rfl : _ = _ := hv220
                          exact EL.nil (EX.sub' (hK _ _ _ ⟨A186, c187, rfl, rfl, (GLe.trans hle217 hle221), (fun h => Rep.mono hle221 (fh188 h))⟩) ⟨rfl, rfl, rfl, rfl, rfl, rfl, rfl, rfl, rfl, rfl, rfl, rfl, rfl, rfl, rfl, rfl, rfl, rfl, trivial⟩)
                        · intro b0' b1' b2' b3' b4' b5' b6' b7' b8' b9' b10' b11'
                          rintro ⟨⟩ ⟨⟩ ⟨⟩ ⟨⟩
                          rintro _ _ G224 ⟨A186, c187, rfl, rfl, hle223, fh188⟩ K hK
                          exact EL.step tabOk rfl (EL.nil (EX.sub' (hK _ _ _ ⟨A186, c187, rfl, rfl, hle223, fh188⟩) ⟨rfl, rfl, rfl, rfl, rfl, rfl, rfl, rfl, rfl, rfl, rfl, rfl, rfl, rfl, rfl, rfl, rfl, rfl, trivial⟩))
                        · intro b0' b1' b2' b3' b4' b5' b6' b7' b8' b9' b10' b11'
                          rintro ⟨⟩ ⟨⟩ ⟨⟩ ⟨⟩ ⟨⟩ ⟨⟩ ⟨⟩ ⟨⟩ ⟨⟩ ⟨⟩ ⟨⟩ ⟨⟩ ⟨⟩ ⟨⟩
                          rintro _ _ G226 ⟨A186, c187, rfl, rfl, hle225, fh188⟩ K hK
                          exact EL.step tabOk rfl (EL.nil (EX.sub' (hK _ _ _ ⟨A186, c187, rfl, rfl, hle225, fh188⟩) ⟨rfl, rfl, rfl, rfl, rfl, rfl, rfl, rfl, rfl, rfl, rfl, rfl, rfl, rfl, rfl, rfl, rfl, rfl, trivial⟩))
                      rintro _ _ G228 ⟨A186, c187, rfl, rfl, hle227, fh188⟩
                      have h13 := Rep.mono hle227 h13
                      have h27 := Rep.mono hle227 h27
                      have h41 := Rep.mono hle227 h41
                      exact EX.seq (E.ret (EX.retE H tabOk rfl rfl))
                    · skip
                      refine E.fewer (env' := [(4, some (.v (.int .i64 p4))), (5, some (.v (.int .i64 p5))), (6, some (.v (.int .i64 p6))), (10, some (.p 0 0)), (17, some (.p 2 0)), (18, some (.v (.int .i64 x29.2)))]) (L' := [.box 24 [.v (.slice A11 x5.Buckets.length c12), .v (.int .i64 x5.Slots), .v (.int .i64 x5.Age)], .box 24 [.v (.slice A25 x15.1.Buckets.length c26), .v (.int .i64 x15.1.Slots), .v (.int .i64 x15.1.Age)], .box 24 [.v (.slice A39 x29.1.Buckets.length c40), .v (.int .i64 x29.1.Slots), .v (.int .i64 x29.1.Age)], .box 24 [.v (.slice none 0 0), .v (.int .i64 0), .v (.int .i64 0)]]) (E.sub' (E.draw mixed (fun (bs : List Bool) (env : Env) (L : List Ent) (Γ : Ghost) => match bs with | [b0', b1', b2', b3', b4', b5', b6', b7', b8', b9', b10', b11'] =>  env = [(128, bif b0' then some (.v (.int .i64 x29.2)) else none), (129, bif b1' then some (.ff) else none), (130, bif b2' then some (.ff) else none), (131, bif b3' then some (.v undef) else none), (132, bif b4' then some (.v undef) else none), (133, bif b5' then some (.v undef) else none), (134, bif b6' then some (.v undef) else none), (135, bif b7' then some (.v undef) else none), (136, bif b8' then some (.v undef) else none), (137, bif b9' then some (.v undef) else none), (138, bif b10' then some (.ff) else none), (14, bif b11' then some (.ff) else none), (4, some (.v (.int .i64 p4))), (5, some (.v (.int .i64 p5))), (6, some (.v (.int .i64 p6))), (10, some (.p 0 0)), (17, some (.p 2 0)), (18, some (.v (.int .i64 x29.2)))] ∧ L = [.box 24 [.v (.slice A11 x5.Buckets.length c12), .v (.int .i64 x5.Slots), .v (.int .i64 x5.Age)], .box 24 [.v (.slice A25 x15.1.Buckets.length c26), .v (.int .i64 x15.1.Slots), .v (.int .i64 x15.1.Age)], .box 24 [.v (.slice A39 x29.1.Buckets.length c40), .v (.int .i64 x29.1.Slots), .v (.int .i64 x29.1.Age)], .box 24 [.v (.slice none 0 0), .v (.int .i64 0), .v (.int .i64 0)]] ∧ GLe G174 Γ | _ => False) ⟨rfl, rfl, GLe.refl _⟩ rfl ?_ ?_) ⟨rfl, rfl, rfl, rfl, rfl, rfl, rfl, rfl, rfl, rfl, rfl, rfl, rfl, rfl, rfl, rfl, rfl, rfl, trivial⟩) ⟨⟨_, rfl, rfl⟩, ⟨_, rfl, rfl⟩, ⟨_, rfl, rfl⟩, ⟨_, rfl, rfl⟩, ⟨_, rfl, rfl⟩, ⟨_, rfl, rfl⟩, trivial⟩ ⟨.inr rfl, .inr rfl, .inr rfl, .inr rfl, trivial⟩ rfl rfl
                      · refine ⟨?_, ?_, ?_, ?_, ?_, ?_, ?_, ?_, ?_, ?_, ?_, ?_, trivial⟩
                        · intro b0' b1' b2' b3' b4' b5' b6' b7' b8' b9' b10' b11'
                          rintro ⟨⟩ ⟨⟩ ⟨⟩
                          rintro _ _ G230 ⟨rfl, rfl, hle229⟩ K hK
                          exact EL.step tabOk rfl (EL.nil (EX.sub' (hK _ _ _ ⟨rfl, rfl, hle229⟩) ⟨rfl, rfl, rfl, rfl, rfl, rfl, rfl, rfl, rfl, rfl, rfl, rfl, rfl, rfl, rfl, rfl, rfl, rfl, trivial⟩))
                        · intro b0' b1' b2' b3' b4' b5' b6' b7' b8' b9' b10' b11'
                          rintro ⟨⟩ ⟨⟩ ⟨⟩ ⟨⟩
                          rintro _ _ G232 ⟨rfl, rfl, hle231⟩ K hK
                          exact EL.step tabOk rfl (EL.known 129 rfl (c := false) hb183 (EL.nil (EX.sub' (hK _ _ _ ⟨rfl, rfl, hle231⟩) ⟨rfl, rfl, rfl, rfl, rfl, rfl, rfl, rfl, rfl, rfl, rfl, rfl, rfl, rfl, rfl, rfl, rfl, rfl, trivial⟩)))
                        · intro b0' b1' b2' b3' b4' b5' b6' b7' b8' b9' b10' b11'
                          rintro ⟨⟩ ⟨⟩ ⟨⟩ ⟨⟩ ⟨⟩ ⟨⟩ ⟨⟩ ⟨⟩ ⟨⟩ ⟨⟩ ⟨⟩
                          rintro _ _ G234 ⟨rfl, rfl, hle233⟩ K hK
                          exact EL.step tabOk rfl (EL.nil (EX.sub' (hK _ _ _ ⟨rfl, rfl, hle233⟩) ⟨rfl, rfl, rfl, rfl, rfl, rfl, rfl, rfl, rfl, rfl, rfl, rfl, rfl, rfl, rfl, rfl, rfl, rfl, trivial⟩))
                        · intro b0' b1' b2' b3' b4' b5' b6' b7' b8' b9' b10' b11'
                          rintro ⟨⟩ ⟨⟩ ⟨⟩ ⟨⟩
                          rintro _ _ G236 ⟨rfl, rfl, hle235⟩ K hK
                          have h41 := Rep.mono hle235 h41
                          exact EL.step tabOk rfl (EL.nil (EX.sub' (hK _ _ _ ⟨rfl, rfl, hle235⟩) ⟨rfl, rfl, rfl, rfl, rfl, rfl, rfl, rfl, rfl, rfl, rfl, rfl, rfl, rfl, rfl, rfl, rfl, rfl, trivial⟩))
                        · intro b0' b1' b2' b3' b4' b5' b6' b7' b8' b9' b10' b11'
                          rintro ⟨⟩ ⟨⟩ ⟨⟩ ⟨⟩
                          rintro _ _ G238 ⟨rfl, rfl, hle237⟩ K hK
                          have h13 := Rep.mono hle237 h13
                          exact EL.step tabOk rfl (EL.nil (EX.sub' (hK _ _ _ ⟨rfl, rfl, hle237⟩) ⟨rfl, rfl, rfl, rfl, rfl, rfl, rfl, rfl, rfl, rfl, rfl, rfl, rfl, rfl, rfl, rfl, rfl, rfl, trivial⟩))
                        · intro b0' b1' b2' b3' b4' b5' b6' b7' b8' b9' b10' b11'
                          rintro ⟨⟩ ⟨⟩ ⟨⟩ ⟨⟩
                          rintro _ _ G240 ⟨rfl, rfl, hle239⟩ K hK
                          exact EL.step tabOk rfl (EL.nil (EX.sub' (hK _ _ _ ⟨rfl, rfl, hle239⟩) ⟨rfl, rfl, rfl, rfl, rfl, rfl, rfl, rfl, rfl, rfl, rfl, rfl, rfl, rfl, rfl, rfl, rfl, rfl, trivial⟩))
                        · intro b0' b1' b2' b3' b4' b5' b6' b7' b8' b9' b10' b11'
                          rintro ⟨⟩ ⟨⟩ ⟨⟩ ⟨⟩
                          rintro _ _ G242 ⟨rfl, rfl, hle241⟩ K hK
                          exact EL.step tabOk rfl (EL.nil (EX.sub' (hK _ _ _ ⟨rfl, rfl, hle241⟩) ⟨rfl, rfl, rfl, rfl, rfl, rfl, rfl, rfl, rfl, rfl, rfl, rfl, rfl, rfl, rfl, rfl, rfl, rfl, trivial⟩))
                        · intro b0' b1' b2' b3' b4' b5' b6' b7' b8' b9' b10' b11'
                          rintro ⟨⟩ ⟨⟩ ⟨⟩ ⟨⟩
                          rintro _ _ G244 ⟨rfl, rfl, hle243⟩ K hK
                          exact EL.step tabOk rfl (EL.nil (EX.sub' (hK _ _ _ ⟨rfl, rfl, hle243⟩) ⟨rfl, rfl, rfl, rfl, rfl, rfl, rfl, rfl, rfl, rfl, rfl, rfl, rfl, rfl, rfl, rfl, rfl, rfl, trivial⟩))
                        · intro b0' b1' b2' b3' b4' b5' b6' b7' b8' b9' b10' b11'
                          rintro ⟨⟩ ⟨⟩ ⟨⟩ ⟨⟩ ⟨⟩ ⟨⟩ ⟨⟩ ⟨⟩ ⟨⟩
                          rintro _ _ G246 ⟨rfl, rfl, hle245⟩ K hK
                          exact EL.step tabOk rfl (EL.nil (EX.sub' (hK _ _ _ ⟨rfl, rfl, hle245⟩) ⟨rfl, rfl, rfl, rfl, rfl, rfl, rfl, rfl, rfl, rfl, rfl, rfl, rfl, rfl, rfl, rfl, rfl, rfl, trivial⟩))
                        · intro b0' b1' b2' b3' b4' b5' b6' b7' b8' b9' b10' b11'
                          rintro ⟨⟩ ⟨⟩ ⟨⟩ ⟨⟩ ⟨⟩ ⟨⟩ ⟨⟩
                          rintro _ _ G248 ⟨rfl, rfl, hle247⟩ K hK
                          exact EL.step tabOk rfl (EL.nil (EX.sub' (hK _ _ _ ⟨rfl, rfl, hle247⟩) ⟨rfl, rfl, rfl, rfl, rfl, rfl, rfl, rfl, rfl, rfl, rfl, rfl, rfl, rfl, rfl, rfl, rfl, rfl, trivial⟩))
                        · intro b0' b1' b2' b3' b4' b5' b6' b7' b8' b9' b10' b11'
                          rintro ⟨⟩ ⟨⟩ ⟨⟩ ⟨⟩
                          rintro _ _ G250 ⟨rfl, rfl, hle249⟩ K hK
                          exact EL.step tabOk rfl (EL.nil (EX.sub' (hK _ _ _ ⟨rfl, rfl, hle249⟩) ⟨rfl, rfl, rfl, rfl, rfl, rfl, rfl, rfl, rfl, rfl, rfl, rfl, rfl, rfl, rfl, rfl, rfl, rfl, trivial⟩))
                        · intro b0' b1' b2' b3' b4' b5' b6' b7' b8' b9' b10' b11'
                          rintro ⟨⟩ ⟨⟩ ⟨⟩ ⟨⟩ ⟨⟩ ⟨⟩ ⟨⟩ ⟨⟩ ⟨⟩ ⟨⟩ ⟨⟩ ⟨⟩ ⟨⟩ ⟨⟩
                          rintro _ _ G252 ⟨rfl, rfl, hle251⟩ K hK
                          exact EL.step tabOk rfl (EL.nil (EX.sub' (hK _ _ _ ⟨rfl, rfl, hle251⟩) ⟨rfl, rfl, rfl, rfl, rfl, rfl, rfl, rfl, rfl, rfl, rfl, rfl, rfl, rfl, rfl, rfl, rfl, rfl, trivial⟩))
                      rintro _ _ G254 ⟨rfl, rfl, hle253⟩
                      have h13 := Rep.mono hle253 h13
                      have h27 := Rep.mono hle253 h27
                      have h41 := Rep.mono hle253 h41
                      exact EX.seq (E.ret (EX.retE H tabOk rfl rfl))
      · skip
        refine E.cond rfl H (fun hb H => ?_) (fun hb H => ?_)
        · skip
          refine E.seq (E.region (EL.run tabOk 3 rfl (EL.split (s := 63) rfl H (fun hb H => ?_) (fun hb H => ?_))))
          · skip
            exact EL.run tabOk 5 rfl (EL.nil (EX.seq (E.condT rfl (E.seq (E.region (EL.run tabOk 1 rfl (EL.nil (EX.seq (E.ret (EX.retT (EX.retE H tabOk rfl rfl)))))))))))
          · skip
            refine EL.run tabOk 2 rfl ?_
            obtain ⟨x255, hx256, H⟩ := bind_some H
            refine EL.call rfl rfl rfl rfl ref08_Same_enters (fun w hw => ref08_Same_ok hx256 hw ⟨_, rfl, h27⟩ ⟨_, rfl, (Sl.nil _)⟩) (fun v259 G258 hle257 hv260 => ?_)
            have h13 := Rep.mono hle257 h13; have h27 := Rep.mono hle257 h27; have h41 := Rep.mono hle257 h41
            obtain rfl : _ = _ := hv260
            refine EL.run tabOk 2 rfl (EL.nil (EX.seq (E.cond rfl H (fun hb H => ?_) (fun hb H => ?_))))
            · skip
              exact E.seq (E.region (EL.run tabOk 1 rfl (EL.nil (EX.seq (E.ret (EX.retT (EX.retE H tabOk rfl rfl)))))))
            · skip
              exact E.skip (EX.fewer (hj126 _ _ _ ⟨rfl, rfl, hle257, H⟩) ⟨⟨_, rfl, rfl⟩, ⟨_, rfl, rfl⟩, ⟨_, rfl, rfl⟩, ⟨_, rfl, rfl⟩, ⟨_, rfl, rfl⟩, ⟨_, rfl, rfl⟩, ⟨_, rfl, rfl⟩, ⟨_, rfl, rfl⟩, ⟨_, rfl, rfl⟩, trivial⟩ ⟨.inr rfl, .inr rfl, .inr rfl, .inr rfl, trivial⟩ rfl rfl)
        · skip
          refine E.seq ?_
          obtain ⟨hb261, H⟩ | ⟨hb261, H⟩ := bif_some H
          · skip
            refine E.fewer (env' := [(0, some (.v (.int .i64 p0))), (1, some (.v (.int .i64 p1))), (2, some (.v (.int .i64 p2))), (4, some (.v (.int .i64 p4))), (5, some (.v (.int .i64 p5))), (6, some (.v (.int .i64 p6))), (10, some (.p 0 0)), (15, some (.p 1 0)), (16, some (.v (.int .i64 x15.2))), (17, some (.p 2 0)), (18, some (.v (.int .i64 x29.2))), (19, some (.v (.int .i64 x43.1))), (20, some (.v (.int .i64 x43.2))), (21, some (.p 3 0))]) (L' := [.box 24 [.v (.slice A11 x5.Buckets.length c12), .v (.int .i64 x5.Slots), .v (.int .i64 x5.Age)], .box 24 [.v (.slice A25 x15.1.Buckets.length c26), .v (.int .i64 x15.1.Slots), .v (.int .i64 x15.1.Age)], .box 24 [.v (.slice A39 x29.1.Buckets.length c40), .v (.int .i64 x29.1.Slots), .v (.int .i64 x29.1.Age)], .box 24 [.v (.slice none 0 0), .v (.int .i64 0), .v (.int .i64 0)]]) (E.sub' (E.draw mixed (fun (bs : List Bool) (env : Env) (L : List Ent) (Γ : Ghost) => match bs with | [b0', b1', b2', b3', b4', b5', b6', b7', b8', b9', b10'] =>  env = [(69, bif b0' then some (.v (.int .i64 x15.2)) else none), (70, bif b1' then some (.tt) else none), (71, bif b2' then some (.tt) else none), (72, bif b3' then some (.v undef) else none), (73, bif b4' then some (.v undef) else none), (74, bif b5' then some (.v undef) else none), (75, bif b6' then some (.v undef) else none), (76, bif b7' then some (.v undef) else none), (77, bif b8' then some (.v undef) else none), (78, bif b9' then some (.v undef) else none), (79, bif b10' then some (.tt) else none), (0, some (.v (.int .i64 p0))), (1, some (.v (.int .i64 p1))), (2, some (.v (.int .i64 p2))), (4, some (.v (.int .i64 p4))), (5, some (.v (.int .i64 p5))), (6, some (.v (.int .i64 p6))), (10, some (.p 0 0)), (15, some (.p 1 0)), (16, some (.v (.int .i64 x15.2))), (17, some (.p 2 0)), (18, some (.v (.int .i64 x29.2))), (19, some (.v (.int .i64 x43.1))), (20, some (.v (.int .i64 x43.2))), (21, some (.p 3 0))] ∧ L = [.box 24 [.v (.slice A11 x5.Buckets.length c12), .v (.int .i64 x5.Slots), .v (.int .i64 x5.Age)], .box 24 [.v (.slice A25 x15.1.Buckets.length c26), .v (.int .i64 x15.1.Slots), .v (.int .i64 x15.1.Age)], .box 24 [.v (.slice A39 x29.1.Buckets.length c40), .v (.int .i64 x29.1.Slots), .v (.int .i64 x29.1.Age)], .box 24 [.v (.slice none 0 0), .v (.int .i64 0), .v (.int .i64 0)]] ∧ GLe G123 Γ | _ => False) ⟨rfl, rfl, GLe.refl _⟩ rfl ?_ ?_) ⟨rfl, rfl, rfl, rfl, rfl, rfl, rfl, rfl, rfl, rfl, rfl, rfl, rfl, rfl, rfl, rfl, rfl, rfl, rfl, rfl, rfl, rfl, rfl, rfl, rfl, trivial⟩) ⟨⟨_, rfl, rfl⟩, ⟨_, rfl, rfl⟩, ⟨_, rfl, rfl⟩, ⟨_, rfl, rfl⟩, ⟨_, rfl, rfl⟩, ⟨_, rfl, rfl⟩, ⟨_, rfl, rfl⟩, ⟨_, rfl, rfl⟩, ⟨_, rfl, rfl⟩, ⟨_, rfl, rfl⟩, ⟨_, rfl, rfl⟩, ⟨_, rfl, rfl⟩, ⟨_, rfl, rfl⟩, ⟨_, rfl, rfl⟩, trivial⟩ ⟨.inr rfl, .inr rfl, .inr rfl, .inr rfl, trivial⟩ rfl rfl
            · refine ⟨?_, ?_, ?_, ?_, ?_, ?_, ?_, ?_, ?_, ?_, ?_, trivial⟩
              · intro b0' b1' b2' b3' b4' b5' b6' b7' b8' b9' b10'
                rintro ⟨⟩ ⟨⟩
                rintro _ _ G263 ⟨rfl, rfl, hle262⟩ K hK
                exact EL.step tabOk rfl (EL.nil (EX.sub' (hK _ _ _ ⟨rfl, rfl, hle262⟩) ⟨rfl, rfl, rfl, rfl, rfl, rfl, rfl, rfl, rfl, rfl, rfl, rfl, rfl, rfl, rfl, rfl, rfl, rfl, rfl, rfl, rfl, rfl, rfl, rfl, rfl, trivial⟩))
              · intro b0' b1' b2' b3' b4' b5' b6' b7' b8' b9' b10'
                rintro ⟨⟩ ⟨⟩ ⟨⟩
                rintro _ _ G265 ⟨rfl, rfl, hle264⟩ K hK
                exact EL.step tabOk rfl (EL.known 70 rfl (c := true) hb261 (EL.nil (EX.sub' (hK _ _ _ ⟨rfl, rfl, hle264⟩) ⟨rfl, rfl, rfl, rfl, rfl, rfl, rfl, rfl, rfl, rfl, rfl, rfl, rfl, rfl, rfl, rfl, rfl, rfl, rfl, rfl, rfl, rfl, rfl, rfl, rfl, trivial⟩)))
              · intro b0' b1' b2' b3' b4' b5' b6' b7' b8' b9' b10'
                rintro ⟨⟩ ⟨⟩ ⟨⟩ ⟨⟩ ⟨⟩ ⟨⟩ ⟨⟩ ⟨⟩ ⟨⟩ ⟨⟩
                rintro _ _ G267 ⟨rfl, rfl, hle266⟩ K hK
                exact EL.step tabOk rfl (EL.nil (EX.sub' (hK _ _ _ ⟨rfl, rfl, hle266⟩) ⟨rfl, rfl, rfl, rfl, rfl, rfl, rfl, rfl, rfl, rfl, rfl, rfl, rfl, rfl, rfl, rfl, rfl, rfl, rfl, rfl, rfl, rfl, rfl, rfl, rfl, trivial⟩))
              · intro b0' b1' b2' b3' b4' b5' b6' b7' b8' b9' b10'
                rintro ⟨⟩ ⟨⟩ ⟨⟩
                rintro _ _ G269 ⟨rfl, rfl, hle268⟩ K hK
                have h27 := Rep.mono hle268 h27
                exact EL.step tabOk rfl (EL.nil (EX.sub' (hK _ _ _ ⟨rfl, rfl, hle268⟩) ⟨rfl, rfl, rfl, rfl, rfl, rfl, rfl, rfl, rfl, rfl, rfl, rfl, rfl, rfl, rfl, rfl, rfl, rfl, rfl, rfl, rfl, rfl, rfl, rfl, rfl, trivial⟩))
              · intro b0' b1' b2' b3' b4' b5' b6' b7' b8' b9' b10'
                rintro ⟨⟩ ⟨⟩ ⟨⟩
                rintro _ _ G271 ⟨rfl, rfl, hle270⟩ K hK
                exact EL.step tabOk rfl (EL.nil (EX.sub' (hK _ _ _ ⟨rfl, rfl, hle270⟩) ⟨rfl, rfl, rfl, rfl, rfl, rfl, rfl, rfl, rfl, rfl, rfl, rfl, rfl, rfl, rfl, rfl, rfl, rfl, rfl, rfl, rfl, rfl, rfl, rfl, rfl, trivial⟩))
              · intro b0' b1' b2' b3' b4' b5' b6' b7' b8' b9' b10'
                rintro ⟨⟩ ⟨⟩ ⟨⟩
                rintro _ _ G273 ⟨rfl, rfl, hle272⟩ K hK
                exact EL.step tabOk rfl (EL.nil (EX.sub' (hK _ _ _ ⟨rfl, rfl, hle272⟩) ⟨rfl, rfl, rfl, rfl, rfl, rfl, rfl, rfl, rfl, rfl, rfl, rfl, rfl, rfl, rfl, rfl, rfl, rfl, rfl, rfl, rfl, rfl, rfl, rfl, rfl, trivial⟩))
              · intro b0' b1' b2' b3' b4' b5' b6' b7' b8' b9' b10'
                rintro ⟨⟩ ⟨⟩ ⟨⟩
                rintro _ _ G275 ⟨rfl, rfl, hle274⟩ K hK
                exact EL.step tabOk rfl (EL.nil (EX.sub' (hK _ _ _ ⟨rfl, rfl, hle274⟩) ⟨rfl, rfl, rfl, rfl, rfl, rfl, rfl, rfl, rfl, rfl, rfl, rfl, rfl, rfl, rfl, rfl, rfl, rfl, rfl, rfl, rfl, rfl, rfl, rfl, rfl, trivial⟩))
              · intro b0' b1' b2' b3' b4' b5' b6' b7' b8' b9' b10'
                rintro ⟨⟩ ⟨⟩ ⟨⟩ ⟨⟩ ⟨⟩ ⟨⟩ ⟨⟩
                rintro _ _ G277 ⟨rfl, rfl, hle276⟩ K hK
                exact EL.step tabOk rfl (EL.nil (EX.sub' (hK _ _ _ ⟨rfl, rfl, hle276⟩) ⟨rfl, rfl, rfl, rfl, rfl, rfl, rfl, rfl, rfl, rfl, rfl, rfl, rfl, rfl, rfl, rfl, rfl, rfl, rfl, rfl, rfl, rfl, rfl, rfl, rfl, trivial⟩))
              · intro b0' b1' b2' b3' b4' b5' b6' b7' b8' b9' b10'
                rintro ⟨⟩ ⟨⟩ ⟨⟩ ⟨⟩ ⟨⟩ ⟨⟩
                rintro _ _ G279 ⟨rfl, rfl, hle278⟩ K hK
                exact EL.step tabOk rfl (EL.nil (EX.sub' (hK _ _ _ ⟨rfl, rfl, hle278⟩) ⟨rfl, rfl, rfl, rfl, rfl, rfl, rfl, rfl, rfl, rfl, rfl, rfl, rfl, rfl, rfl, rfl, rfl, rfl, rfl, rfl, rfl, rfl, rfl, rfl, rfl, trivial⟩))
              · intro b0' b1' b2' b3' b4' b5' b6' b7' b8' b9' b10'
                rintro ⟨⟩ ⟨⟩ ⟨⟩ ⟨⟩
                rintro _ _ G281 ⟨rfl, rfl, hle280⟩ K hK
                exact EL.step tabOk rfl (EL.nil (EX.sub' (hK _ _ _ ⟨rfl, rfl, hle280⟩) ⟨rfl, rfl, rfl, rfl, rfl, rfl, rfl, rfl, rfl, rfl, rfl, rfl, rfl, rfl, rfl, rfl, rfl, rfl, rfl, rfl, rfl, rfl, rfl, rfl, rfl, trivial⟩))
              · intro b0' b1' b2' b3' b4' b5' b6' b7' b8' b9' b10'
                rintro ⟨⟩ ⟨⟩ ⟨⟩
                rintro _ _ G283 ⟨rfl, rfl, hle282⟩ K hK
                exact EL.step tabOk rfl (EL.nil (EX.sub' (hK _ _ _ ⟨rfl, rfl, hle282⟩) ⟨rfl, rfl, rfl, rfl, rfl, rfl, rfl, rfl, rfl, rfl, rfl, rfl, rfl, rfl, rfl, rfl, rfl, rfl, rfl, rfl, rfl, rfl, rfl, rfl, rfl, trivial⟩))
            rintro _ _ G285 ⟨rfl, rfl, hle284⟩
            have h13 := Rep.mono hle284 h13
            have h27 := Rep.mono hle284 h27
            have h41 := Rep.mono hle284 h41
            exact EX.seq (E.condT rfl (E.seq (E.region (EL.run tabOk 1 rfl (EL.nil (EX.seq (E.ret (EX.retT (EX.retE H tabOk rfl rfl)))))))))
          · skip
            obtain ⟨x286, hx287, H⟩ := bind_some H
            obtain ⟨x291, hx292, H⟩ := bind_some H
            refine E.fewer (env' := [(0, some (.v (.int .i64 p0))), (1, some (.v (.int .i64 p1))), (2, some (.v (.int .i64 p2))), (4, some (.v (.int .i64 p4))), (5, some (.v (.int .i64 p5))), (6, some (.v (.int .i64 p6))), (10, some (.p 0 0)), (15, some (.p 1 0)), (16, some (.v (.int .i64 x15.2))), (17, some (.p 2 0)), (18, some (.v (.int .i64 x29.2))), (19, some (.v (.int .i64 x43.1))), (20, some (.v (.int .i64 x43.2))), (21, some (.p 3 0))]) (L' := [.box 24 [.v (.slice A11 x5.Buckets.length c12), .v (.int .i64 x5.Slots), .v (.int .i64 x5.Age)], .box 24 [.v (.slice A25 x15.1.Buckets.length c26), .v (.int .i64 x15.1.Slots), .v (.int .i64 x15.1.Age)], .box 24 [.v (.slice A39 x29.1.Buckets.length c40), .v (.int .i64 x29.1.Slots), .v (.int .i64 x29.1.Age)], .box 24 [.v (.slice none 0 0), .v (.int .i64 0), .v (.int .i64 0)]]) (E.sub' (E.draw mixed (fun (bs : List Bool) (env : Env) (L : List Ent) (Γ : Ghost) => match bs with | [b0', b1', b2', b3', b4', b5', b6', b7', b8', b9', b10'] => ∃ (A288 : Option Addr) (c289 : Nat), env = [(69, bif b0' then some (.v (.int .i64 x15.2)) else none), (70, bif b1' then some (.ff) else none), (71, bif b2' then some (.ff) else none), (72, bif b3' then some (.v (.agg #[.slice A25 x15.1.Buckets.length c26, .int .i64 x15.1.Slots, .int .i64 x15.1.Age])) else none), (73, bif b4' then some (.v (.int .i64 p0)) else none), (74, bif b5' then some (.v (.int .i64 p1)) else none), (75, bif b6' then some (.v (.int .i64 p2)) else none), (76, bif b7' then some (.v (.agg #[.slice A288 x286.Buckets.length c289, .int .i64 x286.Slots, .int .i64 x286.Age])) else none), (77, bif b8' then some (.v (.bool x291)) else none), (78, bif b9' then some (.v (.bool (!x291))) else none), (79, bif b10' then some (.v (.bool (!x291))) else none), (0, some (.v (.int .i64 p0))), (1, some (.v (.int .i64 p1))), (2, some (.v (.int .i64 p2))), (4, some (.v (.int .i64 p4))), (5, some (.v (.int .i64 p5))), (6, some (.v (.int .i64 p6))), (10, some (.p 0 0)), (15, some (.p 1 0)), (16, some (.v (.int .i64 x15.2))), (17, some (.p 2 0)), (18, some (.v (.int .i64 x29.2))), (19, some (.v (.int .i64 x43.1))), (20, some (.v (.int .i64 x43.2))), (21, some (.p 3 0))] ∧ L = [.box 24 [.v (.slice A11 x5.Buckets.length c12), .v (.int .i64 x5.Slots), .v (.int .i64 x5.Age)], .box 24 [.v (.slice A25 x15.1.Buckets.length c26), .v (.int .i64 x15.1.Slots), .v (.int .i64 x15.1.Age)], .box 24 [.v (.slice A39 x29.1.Buckets.length c40), .v (.int .i64 x29.1.Slots), .v (.int .i64 x29.1.Age)], .box 24 [.v (.slice none 0 0), .v (.int .i64 0), .v (.int .i64 0)]] ∧ GLe G123 Γ ∧ (b7' = true → R Γ x286.Buckets (.slice A288 x286.Buckets.length c289)) | _ => False) ⟨none, 0, rfl, rfl, GLe.refl _, (fun h => nomatch h)⟩ rfl ?_ ?_) ⟨rfl, rfl, rfl, rfl, rfl, rfl, rfl, rfl, rfl, rfl, rfl, rfl, rfl, rfl, rfl, rfl, rfl, rfl, rfl, rfl, rfl, rfl, rfl, rfl, rfl, trivial⟩) ⟨⟨_, rfl, rfl⟩, ⟨_, rfl, rfl⟩, ⟨_, rfl, rfl⟩, ⟨_, rfl, rfl⟩, ⟨_, rfl, rfl⟩, ⟨_, rfl, rfl⟩, ⟨_, rfl, rfl⟩, ⟨_, rfl, rfl⟩, ⟨_, rfl, rfl⟩, ⟨_, rfl, rfl⟩, ⟨_, rfl, rfl⟩, ⟨_, rfl, rfl⟩, ⟨_, rfl, rfl⟩, ⟨_, rfl, rfl⟩, trivial⟩ ⟨.inr rfl, .inr rfl, .inr rfl, .inr rfl, trivial⟩ rfl rfl
            · refine ⟨?_, ?_, ?_, ?_, ?_, ?_, ?_, ?_, ?_, ?_, ?_, trivial⟩
              · intro b0' b1' b2' b3' b4' b5' b6' b7' b8' b9' b10'
                rintro ⟨⟩ ⟨⟩
                rintro _ _ G294 ⟨A288, c289, rfl, rfl, hle293, fh290⟩ K hK
                exact EL.step tabOk rfl (EL.nil (EX.sub' (hK _ _ _ ⟨A288, c289, rfl, rfl, hle293, fh290⟩) ⟨rfl, rfl, rfl, rfl, rfl, rfl, rfl, rfl, rfl, rfl, rfl, rfl, rfl, rfl, rfl, rfl, rfl, rfl, rfl, rfl, rfl, rfl, rfl, rfl, rfl, trivial⟩))
              · intro b0' b1' b2' b3' b4' b5' b6' b7' b8' b9' b10'
                rintro ⟨⟩ ⟨⟩ ⟨⟩
                rintro _ _ G296 ⟨A288, c289, rfl, rfl, hle295, fh290⟩ K hK
                exact EL.step tabOk rfl (EL.known 70 rfl (c := false) hb261 (EL.nil (EX.sub' (hK _ _ _ ⟨A288, c289, rfl, rfl, hle295, fh290⟩) ⟨rfl, rfl, rfl, rfl, rfl, rfl, rfl, rfl, rfl, rfl, rfl, rfl, rfl, rfl, rfl, rfl, rfl, rfl, rfl, rfl, rfl, rfl, rfl, rfl, rfl, trivial⟩)))
              · intro b0' b1' b2' b3' b4' b5' b6' b7' b8' b9' b10'
                rintro ⟨⟩ ⟨⟩ ⟨⟩ ⟨⟩ ⟨⟩ ⟨⟩ ⟨⟩ ⟨⟩ ⟨⟩ ⟨⟩
                rintro _ _ G298 ⟨A288, c289, rfl, rfl, hle297, fh290⟩ K hK
                exact EL.step tabOk rfl (EL.nil (EX.sub' (hK _ _ _ ⟨A288, c289, rfl, rfl, hle297, fh290⟩) ⟨rfl, rfl, rfl, rfl, rfl, rfl, rfl, rfl, rfl, rfl, rfl, rfl, rfl, rfl, rfl, rfl, rfl, rfl, rfl, rfl, rfl, rfl, rfl, rfl, rfl, trivial⟩))
              · intro b0' b1' b2' b3' b4' b5' b6' b7' b8' b9' b10'
                rintro ⟨⟩ ⟨⟩ ⟨⟩
                rintro _ _ G300 ⟨A288, c289, rfl, rfl, hle299, fh290⟩ K hK
                have h27 := Rep.mono hle299 h27
                exact EL.step tabOk rfl (EL.nil (EX.sub' (hK _ _ _ ⟨A288, c289, rfl, rfl, hle299, fh290⟩) ⟨rfl, rfl, rfl, rfl, rfl, rfl, rfl, rfl, rfl, rfl, rfl, rfl, rfl, rfl, rfl, rfl, rfl, rfl, rfl, rfl, rfl, rfl, rfl, rfl, rfl, trivial⟩))
              · intro b0' b1' b2' b3' b4' b5' b6' b7' b8' b9' b10'
                rintro ⟨⟩ ⟨⟩ ⟨⟩
                rintro _ _ G302 ⟨A288, c289, rfl, rfl, hle301, fh290⟩ K hK
                exact EL.step tabOk rfl (EL.nil (EX.sub' (hK _ _ _ ⟨A288, c289, rfl, rfl, hle301, fh290⟩) ⟨rfl, rfl, rfl, rfl, rfl, rfl, rfl, rfl, rfl, rfl, rfl, rfl, rfl, rfl, rfl, rfl, rfl, rfl, rfl, rfl, rfl, rfl, rfl, rfl, rfl, trivial⟩))
              · intro b0' b1' b2' b3' b4' b5' b6' b7' b8' b9' b10'
                rintro ⟨⟩ ⟨⟩ ⟨⟩
                rintro _ _ G304 ⟨A288, c289, rfl, rfl, hle303, fh290⟩ K hK
                exact EL.step tabOk rfl (EL.nil (EX.sub' (hK _ _ _ ⟨A288, c289, rfl, rfl, hle303, fh290⟩) ⟨rfl, rfl, rfl, rfl, rfl, rfl, rfl, rfl, rfl, rfl, rfl, rfl, rfl, rfl, rfl, rfl, rfl, rfl, rfl, rfl, rfl, rfl, rfl, rfl, rfl, trivial⟩))
              · intro b0' b1' b2' b3' b4' b5' b6' b7' b8' b9' b10'
                rintro ⟨⟩ ⟨⟩ ⟨⟩
                rintro _ _ G306 ⟨A288, c289, rfl, rfl, hle305, fh290⟩ K hK
                exact EL.step tabOk rfl (EL.nil (EX.sub' (hK _ _ _ ⟨A288, c289, rfl, rfl, hle305, fh290⟩) ⟨rfl, rfl, rfl, rfl, rfl, rfl, rfl, rfl, rfl, rfl, rfl, rfl, rfl, rfl, rfl, rfl, rfl, rfl, rfl, rfl, rfl, rfl, rfl, rfl, rfl, trivial⟩))
              · intro b0' b1' b2' b3' b4' b5' b6' b7' b8' b9' b10'
                rintro ⟨⟩ ⟨⟩ ⟨⟩ ⟨⟩ ⟨⟩ ⟨⟩ ⟨⟩
                rintro _ _ G308 ⟨A288, c289, rfl, rfl, hle307, fh290⟩ K hK
                refine EL.call rfl rfl rfl rfl ref08_New_enters (fun w hw => ref08_New_ok hx287 hw ) (fun v309 G312 hle311 hv310 => ?_)
                obtain ⟨v316, rfl, h315⟩ := hv310
                obtain ⟨A313, c314, rfl, h315⟩ := Sl.open h315
                exact EL.nil (EX.sub' (hK _ _ _ ⟨A313, c314, rfl, rfl, (GLe.trans hle307 hle311), (fun _ => h315)⟩) ⟨rfl, rfl, rfl, rfl, rfl, rfl, rfl, rfl, rfl, rfl, rfl, rfl, rfl, rfl, rfl, rfl, rfl, rfl, rfl, rfl, rfl, rfl, rfl, rfl, rfl, trivial⟩)
              · intro b0' b1' b2' b3' b4' b5' b6' b7' b8' b9' b10'
                rintro ⟨⟩ ⟨⟩ ⟨⟩ ⟨⟩ ⟨⟩ ⟨⟩
                rintro _ _ G318 ⟨A288, c289, rfl, rfl, hle317, fh290⟩ K hK
                have h27 := Rep.mono hle317 h27
                have h290 := fh290 rfl
                refine EL.call rfl rfl rfl rfl ref08_Same_enters (fun w hw => ref08_Same_ok hx292 hw ⟨_, rfl, h27⟩ ⟨_, rfl, h290⟩) (fun v319 G322 hle321 hv320 => ?_)
                obtain rfl : _ = _ := hv320
                exact EL.nil (EX.sub' (hK _ _ _ ⟨A288, c289, rfl, rfl, (GLe.trans hle317 hle321), (fun h => Rep.mono hle321 (fh290 h))⟩) ⟨rfl, rfl, rfl, rfl, rfl, rfl, rfl, rfl, rfl, rfl, rfl, rfl, rfl, rfl, rfl, rfl, rfl, rfl, rfl, rfl, rfl, rfl, rfl, rfl, rfl, trivial⟩)
              · intro b0' b1' b2' b3' b4' b5' b6' b7' b8' b9' b10'
                rintro ⟨⟩ ⟨⟩ ⟨⟩ ⟨⟩
                rintro _ _ G324 ⟨A288, c289, rfl, rfl, hle323, fh290⟩ K hK
                exact EL.step tabOk rfl (EL.nil (EX.sub' (hK _ _ _ ⟨A288, c289, rfl, rfl, hle323, fh290⟩) ⟨rfl, rfl, rfl, rfl, rfl, rfl, rfl, rfl, rfl, rfl, rfl, rfl, rfl, rfl, rfl, rfl, rfl, rfl, rfl, rfl, rfl, rfl, rfl, rfl, rfl, trivial⟩))
              · intro b0' b1' b2' b3' b4' b5' b6' b7' b8' b9' b10'
                rintro ⟨⟩ ⟨⟩ ⟨⟩
                rintro _ _ G326 ⟨A288, c289, rfl, rfl, hle325, fh290⟩ K hK
                exact EL.step tabOk rfl (EL.nil (EX.sub' (hK _ _ _ ⟨A288, c289, rfl, rfl, hle325, fh290⟩) ⟨rfl, rfl, rfl, rfl, rfl, rfl, rfl, rfl, rfl, rfl, rfl, rfl, rfl, rfl, rfl, rfl, rfl, rfl, rfl, rfl, rfl, rfl, rfl, rfl, rfl, trivial⟩))
            rintro _ _ G328 ⟨A288, c289, rfl, rfl, hle327, fh290⟩
            have h13 := Rep.mono hle327 h13
            have h27 := Rep.mono hle327 h27
            have h41 := Rep.mono hle327 h41
            refine EX.seq (E.cond rfl H (fun hb H => ?_) (fun hb H => ?_))
            · skip
              exact E.seq (E.region (EL.run tabOk 1 rfl (EL.nil (EX.seq (E.ret (EX.retT (EX.retE H tabOk rfl rfl)))))))
            · skip
              exact E.skip (EX.fewer (hj126 _ _ _ ⟨rfl, rfl, hle327, H⟩) ⟨⟨_, rfl, rfl⟩, ⟨_, rfl, rfl⟩, ⟨_, rfl, rfl⟩, ⟨_, rfl, rfl⟩, ⟨_, rfl, rfl⟩, ⟨_, rfl, rfl⟩, ⟨_, rfl, rfl⟩, ⟨_, rfl, rfl⟩, ⟨_, rfl, rfl⟩, trivial⟩ ⟨.inr rfl, .inr rfl, .inr rfl, .inr rfl, trivial⟩ rfl rfl)
theorem law08_FdbCrowds_enters : Enters Try.prog 4 := ⟨_, Try.func4, rfl, rfl⟩
set_option maxHeartbeats 4000000 in
theorem law08_FdbCrowds_ok {k : Nat} {p0 : Int} {p1 : Int} {p2 : Int} {p3 : (List Int)} {p4 : Int} {p5 : Int} {r : Bool} (H : law08_FdbCrowds k p0 p1 p2 p3 p4 p5 = some r) {G : Ghost} {w : World} (hG : Holds G w) {v3 : Value} (h3 : R G p3 v3) : Ret Try.prog 4 [.int .i64 p0, .int .i64 p1, .int .i64 p2, v3, .int .i64 p4, .int .i64 p5] w G (fun G v => R G r v) := by
  obtain ⟨A1, c2, rfl, h3⟩ := Sl.open h3
  unfold law08_FdbCrowds at H
  refine start Try.func4 rfl Try.ntmps4 rfl hG (E.seq (E.region (EL.run tabOk 1 rfl (EL.nil (EX.seq (E.seq (E.region (EL.run tabOk 1 rfl ?_))))))))
  obtain ⟨i4, hq5, H⟩ := bind_some H
  refine EL.rem hq5 rfl rfl rfl rfl rfl (EL.run tabOk 1 rfl ?_)
  obtain ⟨i6, hq7, H⟩ := bind_some H
  refine EL.rem hq7 rfl rfl rfl rfl rfl (EL.run tabOk 2 rfl ?_)
  obtain ⟨i8, hq9, H⟩ := bind_some H
  refine EL.rem hq9 rfl rfl rfl rfl rfl (EL.run tabOk 1 rfl ?_)
  obtain ⟨i10, hq11, H⟩ := bind_some H
  refine EL.rem hq11 rfl rfl rfl rfl rfl (EL.run tabOk 2 rfl ?_)
  obtain ⟨i12, hq13, H⟩ := bind_some H
  refine EL.rem hq13 rfl rfl rfl rfl rfl (EL.run tabOk 1 rfl ?_)
  obtain ⟨i14, hq15, H⟩ := bind_some H
  refine EL.rem hq15 rfl rfl rfl rfl rfl (EL.run tabOk 3 rfl (EL.nil (EX.seq (E.seq (E.region (EL.run tabOk 1 rfl ?_))))))
  obtain ⟨i16, hq17, H⟩ := bind_some H
  refine EL.rem hq17 rfl rfl rfl rfl rfl (EL.run tabOk 1 rfl ?_)
  obtain ⟨i18, hq19, H⟩ := bind_some H
  refine EL.rem hq19 rfl rfl rfl rfl rfl (EL.run tabOk 2 rfl ?_)
  obtain ⟨i20, hq21, H⟩ := bind_some H
  refine EL.rem hq21 rfl rfl rfl rfl rfl (EL.run tabOk 1 rfl ?_)
  obtain ⟨i22, hq23, H⟩ := bind_some H
  refine EL.rem hq23 rfl rfl rfl rfl rfl (EL.run tabOk 2 rfl (EL.nil (EX.seq (E.seq (E.region (EL.run tabOk 2 rfl ?_))))))
  obtain ⟨x24, hx25, H⟩ := bind_some H
  refine EL.call rfl rfl rfl rfl fdb_New_enters (fun w hw => fdb_New_ok hx25 hw ) (fun v28 G27 hle26 hv29 => ?_)
  have h3 := Rep.mono hle26 h3
  obtain ⟨u30, u31, rfl, h32, h33⟩ := hv29
  obtain ⟨v37, rfl, h36⟩ := h32
  obtain ⟨A34, c35, rfl, h36⟩ := Sl.open h36
  obtain rfl : _ = _ := h33
  refine EL.run tabOk 6 rfl (EL.nil (EX.seq (E.seq (E.region (EL.run tabOk 3 rfl ?_)))))
  obtain ⟨x38, hx39, H⟩ := bind_some H
  refine EL.call rfl rfl rfl rfl fdb_Learn_enters (fun w hw => fdb_Learn_ok hx39 hw ⟨_, rfl, h36⟩) (fun v42 G41 hle40 hv43 => ?_)
  have h3 := Rep.mono hle40 h3; have h36 := Rep.mono hle40 h36
  obtain ⟨u44, u45, rfl, h46, h47⟩ := hv43
  obtain ⟨v51, rfl, h50⟩ := h46
  obtain ⟨A48, c49, rfl, h50⟩ := Sl.open h50
  obtain rfl : _ = _ := h47
  refine EL.run tabOk 5 rfl (EL.nil (EX.seq (E.seq (E.seq (E.region (EL.run tabOk 6 rfl (EL.nil (EX.seq (E.cond rfl H (fun hb H => ?_) (fun hb H => ?_))))))))))
  · skip
    exact E.seq (E.region (EL.run tabOk 1 rfl (EL.nil (EX.seq (E.ret (EX.retT (EX.retE H tabOk rfl rfl)))))))
  · skip
    refine E.skip (EX.seq (E.seq (E.region (EL.makeMap rfl rfl rfl (EL.run tabOk 1 rfl (EL.nil (EX.seq (E.seq (E.seq (E.region (EL.run tabOk 4 rfl ?_)))))))))))
    obtain ⟨l52, hy53, H⟩ := bind_some H
    refine EL.slice hy53 h3 tabOk rfl rfl rfl rfl rfl rfl rfl rfl rfl (fun A54 c55 h56 => ?_)
    refine EL.run tabOk 2 rfl (EL.nil (EX.seq (E.join (fun env L Γ => ∃ (l57 : (List (List Entry))) (i61 : Int) (i62 : Int) (m63 : (List (Int × Int))) (A58 : Option Addr) (c59 : Nat), env = [(0, some (.v (.int .i64 (wr (1 + i6))))), (1, some (.v (.int .i64 (wr (1 + i10))))), (2, some (.v (.int .i64 i14))), (4, some (.v (.int .i64 (wr (2 * i18))))), (5, some (.v (.int .i64 i22))), (13, some (.p 0 0)), (16, some (.mp 1))] ∧ L = [.box 24 [.v (.slice A58 l57.length c59), .v (.int .i64 i61), .v (.int .i64 i62)], .mp (mE (Value.int .i64) m63)] ∧ GLe G41 Γ ∧ R Γ l57 (.slice A58 l57.length c59) ∧ law08_FdbCrowds_j2 k i6 i10 i14 i18 i22 l57 i61 i62 m63 = some r) ?_ (fun hj64 => ?_))))
    · skip
      rintro _ _ G66 ⟨l57, i61, i62, m63, A58, c59, rfl, rfl, hle65, h60, H⟩
      unfold law08_FdbCrowds_j2 at H
      refine EX.seq (E.seq (E.region (EL.run tabOk 3 rfl ?_)))
      obtain ⟨x67, hx68, H⟩ := bind_some H
      refine EL.call rfl rfl rfl rfl fdb_Find_enters (fun w hw => fdb_Find_ok hx68 hw ⟨_, rfl, h60⟩) (fun v71 G70 hle69 hv72 => ?_)
      have h60 := Rep.mono hle69 h60
      obtain ⟨u73, u74, rfl, h75, h76⟩ := hv72
      obtain rfl : _ = _ := h75
      obtain rfl : _ = _ := h76
      refine EL.run tabOk 5 rfl (EL.nil (EX.seq (E.seq (E.region (EL.run tabOk 2 rfl (EL.nil (EX.seq (E.seq (E.seq (E.region (EL.run tabOk 1 rfl (EL.mlen tabOk rfl rfl rfl rfl rfl rfl rfl (EL.run tabOk 7 rfl (EL.nil (EX.seq (E.join (fun env L Γ => ∃ (i77 : Int), env = [(21, some (.v (.int .i64 x67.1))), (22, some (.v (.int .i64 x67.2))), (23, some (.v (.int .i64 i77)))] ∧ L = [.box 24 [.v (.slice A58 l57.length c59), .v (.int .i64 i61), .v (.int .i64 i62)], .mp (mE (Value.int .i64) m63)] ∧ GLe G70 Γ ∧ law08_FdbCrowds_j1 k x67 i77 = some r) ?_ (fun hj78 => ?_)))))))))))))))))
      · skip
        rintro _ _ G80 ⟨i77, rfl, rfl, hle79, H⟩
        unfold law08_FdbCrowds_j1 at H
        have h60 := Rep.mono hle79 h60
        refine EX.seq (E.seq (E.region ?_))
        obtain ⟨x81, hx82, H⟩ := bind_some H
        refine EL.call rfl rfl rfl rfl law08_alive_enters (fun w hw => law08_alive_ok hx82 hw ) (fun v85 G84 hle83 hv86 => ?_)
        have h60 := Rep.mono hle83 h60
        obtain rfl : _ = _ := hv86
        exact EL.run tabOk 10 rfl (EL.nil (EX.seq (E.ret (EX.retE H tabOk rfl rfl))))
      · skip
        refine E.cond rfl H (fun hb H => ?_) (fun hb H => ?_)
        · skip
          exact E.region (EL.run tabOk 1 rfl (EL.nil (EX.fewer (hj78 _ _ _ ⟨(-1), rfl, rfl, (GLe.refl _), H⟩) ⟨⟨_, rfl, rfl⟩, ⟨_, rfl, rfl⟩, ⟨_, rfl, rfl⟩, trivial⟩ ⟨.inr rfl, .inr rfl, trivial⟩ rfl rfl)))
        · skip
          exact E.skip (EX.fewer (hj78 _ _ _ ⟨i14, rfl, rfl, (GLe.refl _), H⟩) ⟨⟨_, rfl, rfl⟩, ⟨_, rfl, rfl⟩, ⟨_, rfl, rfl⟩, trivial⟩ ⟨.inr rfl, .inr rfl, trivial⟩ rfl rfl)
    · skip
      refine E.block (E.fewer (E.loop (fun n env L Γ => ∃ (i87 : Int) (l88 : (List (List Entry))) (i92 : Int) (i93 : Int) (m94 : (List (Int × Int))) (A89 : Option Addr) (c90 : Nat), env = [(0, some (.v (.int .i64 (wr (1 + i6))))), (1, some (.v (.int .i64 (wr (1 + i10))))), (2, some (.v (.int .i64 i14))), (4, some (.v (.int .i64 (wr (2 * i18))))), (5, some (.v (.int .i64 i22))), (13, some (.p 0 0)), (16, some (.mp 1)), (71, some (.v (.slice A54 l52.length c55))), (72, some (.v (.int .i64 (l52.length : Int)))), (73, some (.v (.int .i64 i87)))] ∧ L = [.box 24 [.v (.slice A89 l88.length c90), .v (.int .i64 i92), .v (.int .i64 i93)], .mp (mE (Value.int .i64) m94)] ∧ GLe G41 Γ ∧ R Γ l88 (.slice A89 l88.length c90) ∧ loopN (fun _ _ _ _ _ => none) (law08_FdbCrowds_s4 k i6 i10 i14 i18 i22 l52) n i87 l88 i92 i93 m94 = some r) k ⟨0, x38.1.Buckets, x38.1.Slots, x38.1.Age, [], A48, c49, rfl, rfl, GLe.refl _, h50, H⟩ ?_) ⟨⟨_, rfl, rfl⟩, ⟨_, rfl, rfl⟩, ⟨_, rfl, rfl⟩, ⟨_, rfl, rfl⟩, ⟨_, rfl, rfl⟩, ⟨_, rfl, rfl⟩, ⟨_, rfl, rfl⟩, ⟨_, rfl, rfl⟩, ⟨_, rfl, rfl⟩, ⟨_, rfl, rfl⟩, trivial⟩ ⟨.inr rfl, .inr rfl, trivial⟩ rfl rfl)
      rintro n99 _ _ G97 ⟨i87, l88, i92, i93, m94, A89, c90, rfl, rfl, hle95, h91, H⟩ K hK98
      obtain _ | n99 := n99
      · exact none_ne H
      rw [loopN] at H; unfold law08_FdbCrowds_s4 at H
      have h56 := Rep.mono hle95 h56
      refine E.seq (E.region (EL.run tabOk 1 rfl (EL.nil (EX.seq (E.seq (E.cond rfl H (fun hb H => ?_) (fun hb H => ?_)))))))
      · skip
        refine E.skip (EX.seq (E.seq (E.join (fun env L Γ => ∃ (l100 : (List (List Entry))) (i104 : Int) (i105 : Int) (m106 : (List (Int × Int))) (A101 : Option Addr) (c102 : Nat), env = [(0, some (.v (.int .i64 (wr (1 + i6))))), (1, some (.v (.int .i64 (wr (1 + i10))))), (2, some (.v (.int .i64 i14))), (4, some (.v (.int .i64 (wr (2 * i18))))), (5, some (.v (.int .i64 i22))), (13, some (.p 0 0)), (16, some (.mp 1)), (71, some (.v (.slice A54 l52.length c55))), (72, some (.v (.int .i64 (l52.length : Int)))), (73, some (.v (.int .i64 i87)))] ∧ L = [.box 24 [.v (.slice A101 l100.length c102), .v (.int .i64 i104), .v (.int .i64 i105)], .mp (mE (Value.int .i64) m106)] ∧ GLe G97 Γ ∧ R Γ l100 (.slice A101 l100.length c102) ∧ law08_FdbCrowds_j3 k i87 (loopN (fun _ _ _ _ _ => none) (law08_FdbCrowds_s4 k i6 i10 i14 i18 i22 l52) n99) l100 i104 i105 m106 = some r) ?_ (fun hj107 => ?_))))
        · skip
          rintro _ _ G109 ⟨l100, i104, i105, m106, A101, c102, rfl, rfl, hle108, h103, H⟩
          unfold law08_FdbCrowds_j3 at H
          have h56 := Rep.mono hle108 h56
          exact EX.seq (E.region (EL.run tabOk 2 rfl (EL.nil (EX.fewer (hK98 n99 _ _ _ (Nat.lt_succ_self _) ⟨wr (i87 + 1), l100, i104, i105, m106, A101, c102, rfl, rfl, (GLe.trans hle95 hle108), h103, H⟩) ⟨⟨_, rfl, rfl⟩, ⟨_, rfl, rfl⟩, ⟨_, rfl, rfl⟩, ⟨_, rfl, rfl⟩, ⟨_, rfl, rfl⟩, ⟨_, rfl, rfl⟩, ⟨_, rfl, rfl⟩, ⟨_, rfl, rfl⟩, ⟨_, rfl, rfl⟩, ⟨_, rfl, rfl⟩, trivial⟩ ⟨.inr rfl, .inr rfl, trivial⟩ rfl rfl))))
        · skip
          refine E.block (E.seq (E.region ?_))
          obtain ⟨y110, hy111, H⟩ := bind_some H
          refine EL.index hy111 h56 tabOk rfl rfl rfl rfl rfl rfl rfl rfl (fun b112 o113 u114 hu115 hc116 => ?_)
          obtain rfl : _ = _ := hu115
          refine EL.load hc116 tabOk rfl rfl rfl rfl rfl rfl (EL.run tabOk 1 rfl (EL.nil (EX.seq (E.seq (E.region (EL.run tabOk 1 rfl ?_))))))
          obtain ⟨i117, hq118, H⟩ := bind_some H
          refine EL.rem hq118 rfl rfl rfl rfl rfl (EL.run tabOk 1 rfl ?_)
          obtain ⟨i119, hq120, H⟩ := bind_some H
          refine EL.rem hq120 rfl rfl rfl rfl rfl (EL.run tabOk 2 rfl (EL.nil (EX.seq (E.seq (E.seq (E.region (EL.run tabOk 3 rfl (EL.nil (EX.seq (E.cond rfl H (fun hb H => ?_) (fun hb H => ?_)))))))))))
          · skip
            exact E.exit (EX.out (EX.hit (EX.fewer (hj107 _ _ _ ⟨l88, i92, i93, m94, A89, c90, rfl, rfl, (GLe.refl _), h91, H⟩) ⟨⟨_, rfl, rfl⟩, ⟨_, rfl, rfl⟩, ⟨_, rfl, rfl⟩, ⟨_, rfl, rfl⟩, ⟨_, rfl, rfl⟩, ⟨_, rfl, rfl⟩, ⟨_, rfl, rfl⟩, ⟨_, rfl, rfl⟩, ⟨_, rfl, rfl⟩, ⟨_, rfl, rfl⟩, trivial⟩ ⟨.inr rfl, .inr rfl, trivial⟩ rfl rfl)))
          · skip
            refine E.skip (EX.seq (E.seq (E.region (EL.run tabOk 4 rfl ?_))))
            obtain ⟨x121, hx122, H⟩ := bind_some H
            refine EL.call rfl rfl rfl rfl fdb_Learn_enters (fun w hw => fdb_Learn_ok hx122 hw ⟨_, rfl, h91⟩) (fun v125 G124 hle123 hv126 => ?_)
            have h56 := Rep.mono hle123 h56; have h91 := Rep.mono hle123 h91
            obtain ⟨u127, u128, rfl, h129, h130⟩ := hv126
            obtain ⟨v134, rfl, h133⟩ := h129
            obtain ⟨A131, c132, rfl, h133⟩ := Sl.open h133
            obtain rfl : _ = _ := h130
            refine EL.run tabOk 6 rfl (EL.nil (EX.seq (E.seq (E.seq (E.region (EL.run tabOk 2 rfl (EL.nil (EX.seq (E.cond rfl H (fun hb H => ?_) (fun hb H => ?_))))))))))
            · skip
              exact E.seq (E.region (EL.run tabOk 1 rfl (EL.nil (EX.seq (E.ret (EX.retT (EX.retB (EX.retT (EX.retT (EX.retB (EX.retT (EX.retE H tabOk rfl rfl))))))))))))
            · skip
              exact E.skip (EX.seq (E.seq (E.region (EL.run tabOk 2 rfl (EL.nil (EX.seq (E.region (EL.run tabOk 2 rfl (EL.lookup (enc := (Value.int .i64)) (m := m94) (z0 := 0) tabOk rfl rfl rfl rfl rfl rfl rfl rfl (fun _ => rfl) (EL.run tabOk 1 rfl (EL.mapUpdate (enc := (Value.int .i64)) (m := m94) (u := (wr (((mget m94 (wr (2 * i119))).getD 0) + 1))) tabOk rfl rfl rfl rfl rfl rfl rfl rfl rfl rfl (EL.nil (EX.block (EX.fewer (hj107 _ _ _ ⟨x121.1.Buckets, x121.1.Slots, x121.1.Age, mset m94 (wr (2 * i119)) (wr (((mget m94 (wr (2 * i119))).getD 0) + 1)), A131, c132, rfl, rfl, hle123, h133, H⟩) ⟨⟨_, rfl, rfl⟩, ⟨_, rfl, rfl⟩, ⟨_, rfl, rfl⟩, ⟨_, rfl, rfl⟩, ⟨_, rfl, rfl⟩, ⟨_, rfl, rfl⟩, ⟨_, rfl, rfl⟩, ⟨_, rfl, rfl⟩, ⟨_, rfl, rfl⟩, ⟨_, rfl, rfl⟩, trivial⟩ ⟨.inr rfl, .inr rfl, trivial⟩ rfl rfl))))))))))))))
      · skip
        exact E.exit (EX.out (EX.out (EX.hit (EX.fewer (hj64 _ _ _ ⟨l88, i92, i93, m94, A89, c90, rfl, rfl, hle95, h91, H⟩) ⟨⟨_, rfl, rfl⟩, ⟨_, rfl, rfl⟩, ⟨_, rfl, rfl⟩, ⟨_, rfl, rfl⟩, ⟨_, rfl, rfl⟩, ⟨_, rfl, rfl⟩, ⟨_, rfl, rfl⟩, trivial⟩ ⟨.inr rfl, .inr rfl, trivial⟩ rfl rfl))))
end Go.Proofs.Ytafjcdpkanigaaa
