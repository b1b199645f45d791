/- PRINTED by a program of the claim's own: the types of the seat, and Go's functions as Lean functions, each with the proof that a call of it comes to that. -/
import Derived.Test.YtdiclbejalelfaaFwT
import Derived.Test.YtdiclbejalelfaaTD
import Derived.Test.YtdiclbejalelfaaProg
set_option linter.unusedVariables false
set_option linter.unusedSimpArgs false
set_option maxRecDepth 100000
namespace Go.Proofs.Ytdiclbejalelfaa
open Go.RowKit
open Rep (R)
def wf_Link (e : Link) : Prop := wfI e.Seg ∧ wfI e.Cost ∧ wfT e.Up
theorem opn_Link {w : World} : Opn Try.prog w 35 Link wf_Link true := ⟨fun enc base spare held fuel cs x h => by
  obtain ⟨xs, n, rfl, rfl, hl, hx, hf⟩ := DataW.trod_struct Try.underlying35 h
  replace hl : cs.length = 3 := hl.trans (by kernel_rfl)
  obtain ⟨c0, c1, c2, rfl⟩ : ∃ c0 c1 c2, cs = [c0, c1, c2] := by
    match cs, hl with
    | [c0, c1, c2], _ => exact ⟨c0, c1, c2, rfl⟩
  obtain ⟨a0, r0, w0⟩ := Opn.field hf hx (i := 0) rfl (Opn.int Try.underlying3) (size := 1) (by kernel_rfl)
  obtain rfl : c0 = _ := r0
  obtain ⟨a1, r1, w1⟩ := Opn.field hf hx (i := 1) rfl (Opn.int Try.underlying3) (size := 1) (by kernel_rfl)
  obtain rfl : c1 = _ := r1
  obtain ⟨a2, r2, w2⟩ := Opn.field hf hx (i := 2) rfl (Opn.bool Try.underlying4) (size := 1) (by kernel_rfl)
  obtain rfl : c2 = _ := r2
  exact ⟨⟨a0, a1, a2⟩, rfl, ⟨w0, w1, w2⟩, rfl⟩⟩
def wf_Plan (e : Plan) : Prop := wfI e.ID ∧ (wfL wf_Link) e.Ports
theorem opn_Plan {w : World} : Opn Try.prog w 33 Plan wf_Plan true := ⟨fun enc base spare held fuel cs x h => by
  obtain ⟨xs, n, rfl, rfl, hl, hx, hf⟩ := DataW.trod_struct Try.underlying33 h
  replace hl : cs.length = 2 := hl.trans (by kernel_rfl)
  obtain ⟨c0, c1, rfl⟩ : ∃ c0 c1, cs = [c0, c1] := by
    match cs, hl with
    | [c0, c1], _ => exact ⟨c0, c1, rfl⟩
  obtain ⟨a0, r0, w0⟩ := Opn.field hf hx (i := 0) rfl (Opn.int Try.underlying3) (size := 1) (by kernel_rfl)
  obtain rfl : c0 = _ := r0
  obtain ⟨a1, r1, w1⟩ := Opn.field hf hx (i := 1) rfl (Opn.slice Try.underlying31 opn_Link (by kernel_rfl) (by decide)) (size := 1) (by kernel_rfl)
  change R (gw w) a1 c1 at r1
  exact ⟨⟨a0, a1⟩, ⟨_, rfl, r1⟩, ⟨w0, w1⟩, rfl⟩⟩
def wf_Host (e : Host) : Prop := wfI e.Mac ∧ wfI e.Seg
theorem opn_Host {w : World} : Opn Try.prog w 69 Host wf_Host true := ⟨fun enc base spare held fuel cs x h => by
  obtain ⟨xs, n, rfl, rfl, hl, hx, hf⟩ := DataW.trod_struct Try.underlying69 h
  replace hl : cs.length = 2 := hl.trans (by kernel_rfl)
  obtain ⟨c0, c1, rfl⟩ : ∃ c0 c1, cs = [c0, c1] := by
    match cs, hl with
    | [c0, c1], _ => exact ⟨c0, c1, rfl⟩
  obtain ⟨a0, r0, w0⟩ := Opn.field hf hx (i := 0) rfl (Opn.int Try.underlying3) (size := 1) (by kernel_rfl)
  obtain rfl : c0 = _ := r0
  obtain ⟨a1, r1, w1⟩ := Opn.field hf hx (i := 1) rfl (Opn.int Try.underlying3) (size := 1) (by kernel_rfl)
  obtain rfl : c1 = _ := r1
  exact ⟨⟨a0, a1⟩, rfl, ⟨w0, w1⟩, rfl⟩⟩
def wf_Lan (e : Lan) : Prop := wfI e.Segs ∧ (wfL wf_Plan) e.Plans ∧ (wfL wf_Host) e.Hosts
theorem opn_Lan {w : World} : Opn Try.prog w 25 Lan wf_Lan true := ⟨fun enc base spare held fuel cs x h => by
  obtain ⟨xs, n, rfl, rfl, hl, hx, hf⟩ := DataW.trod_struct Try.underlying25 h
  replace hl : cs.length = 3 := hl.trans (by kernel_rfl)
  obtain ⟨c0, c1, c2, rfl⟩ : ∃ c0 c1 c2, cs = [c0, c1, c2] := by
    match cs, hl with
    | [c0, c1, c2], _ => exact ⟨c0, c1, c2, rfl⟩
  obtain ⟨a0, r0, w0⟩ := Opn.field hf hx (i := 0) rfl (Opn.int Try.underlying3) (size := 1) (by kernel_rfl)
  obtain rfl : c0 = _ := r0
  obtain ⟨a1, r1, w1⟩ := Opn.field hf hx (i := 1) rfl (Opn.slice Try.underlying22 opn_Plan (by kernel_rfl) (by decide)) (size := 1) (by kernel_rfl)
  change R (gw w) a1 c1 at r1
  obtain ⟨a2, r2, w2⟩ := Opn.field hf hx (i := 2) rfl (Opn.slice Try.underlying23 opn_Host (by kernel_rfl) (by decide)) (size := 1) (by kernel_rfl)
  change R (gw w) a2 c2 at r2
  exact ⟨⟨a0, a1, a2⟩, ⟨_, _, rfl, r1, r2⟩, ⟨w0, w1, w2⟩, rfl⟩⟩
end Go.Proofs.Ytdiclbejalelfaa
