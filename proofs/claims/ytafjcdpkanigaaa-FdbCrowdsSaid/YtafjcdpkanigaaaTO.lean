/- PRINTED by a program of the claim's own: the types of the seat, and Go's functions as Lean functions, each with the proof that a call of it comes to that. -/
import Derived.Test.YtafjcdpkanigaaaFwR
import Derived.Test.YtafjcdpkanigaaaTD
import Derived.Test.YtafjcdpkanigaaaProg
set_option linter.unusedVariables false
set_option linter.unusedSimpArgs false
set_option maxRecDepth 100000
namespace Go.Proofs.Ytafjcdpkanigaaa
open Go.RowKit
open Rep (R)
def wf_Entry (e : Entry) : Prop := wfI e.Mac ∧ wfI e.Port ∧ wfI e.Seen ∧ wfT e.Static
theorem opn_Entry {w : World} : Opn Try.prog w 49 Entry wf_Entry true := ⟨fun enc base spare held fuel cs x h => by
  obtain ⟨xs, n, rfl, rfl, hl, hx, hf⟩ := DataW.trod_struct Try.underlying49 h
  replace hl : cs.length = 4 := hl.trans (by kernel_rfl)
  obtain ⟨c0, c1, c2, c3, rfl⟩ : ∃ c0 c1 c2 c3, cs = [c0, c1, c2, c3] := by
    match cs, hl with
    | [c0, c1, c2, c3], _ => exact ⟨c0, c1, c2, c3, rfl⟩
  obtain ⟨a0, r0, w0⟩ := Opn.field hf hx (i := 0) rfl (Opn.int Try.underlying3) (size := 1) (by kernel_rfl)
  obtain rfl : c0 = _ := r0
  obtain ⟨a1, r1, w1⟩ := Opn.field hf hx (i := 1) rfl (Opn.int Try.underlying3) (size := 1) (by kernel_rfl)
  obtain rfl : c1 = _ := r1
  obtain ⟨a2, r2, w2⟩ := Opn.field hf hx (i := 2) rfl (Opn.int Try.underlying3) (size := 1) (by kernel_rfl)
  obtain rfl : c2 = _ := r2
  obtain ⟨a3, r3, w3⟩ := Opn.field hf hx (i := 3) rfl (Opn.bool Try.underlying4) (size := 1) (by kernel_rfl)
  obtain rfl : c3 = _ := r3
  exact ⟨⟨a0, a1, a2, a3⟩, rfl, ⟨w0, w1, w2, w3⟩, rfl⟩⟩
def wf_Table (e : Table) : Prop := (wfL (wfL wf_Entry)) e.Buckets ∧ wfI e.Slots ∧ wfI e.Age
theorem opn_Table {w : World} : Opn Try.prog w 24 Table wf_Table true := ⟨fun enc base spare held fuel cs x h => by
  obtain ⟨xs, n, rfl, rfl, hl, hx, hf⟩ := DataW.trod_struct Try.underlying24 h
  replace hl : cs.length = 3 := hl.trans (by kernel_rfl)
  obtain ⟨c0, c1, c2, rfl⟩ : ∃ c0 c1 c2, cs = [c0, c1, c2] := by
    match cs, hl with
    | [c0, c1, c2], _ => exact ⟨c0, c1, c2, rfl⟩
  obtain ⟨a0, r0, w0⟩ := Opn.field hf hx (i := 0) rfl (Opn.slice Try.underlying22 (Opn.slice Try.underlying44 opn_Entry (by kernel_rfl) (by decide)) (by kernel_rfl) (by decide)) (size := 1) (by kernel_rfl)
  change R (gw w) a0 c0 at r0
  obtain ⟨a1, r1, w1⟩ := Opn.field hf hx (i := 1) rfl (Opn.int Try.underlying3) (size := 1) (by kernel_rfl)
  obtain rfl : c1 = _ := r1
  obtain ⟨a2, r2, w2⟩ := Opn.field hf hx (i := 2) rfl (Opn.int Try.underlying3) (size := 1) (by kernel_rfl)
  obtain rfl : c2 = _ := r2
  exact ⟨⟨a0, a1, a2⟩, ⟨_, rfl, r0⟩, ⟨w0, w1, w2⟩, rfl⟩⟩
end Go.Proofs.Ytafjcdpkanigaaa
