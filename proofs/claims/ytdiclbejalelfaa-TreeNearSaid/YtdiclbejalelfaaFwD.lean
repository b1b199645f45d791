/- The step of one operation is right. No condition. -/
import Derived.Test.YtdiclbejalelfaaFwC
set_option linter.unusedVariables false
set_option linter.unusedSimpArgs false
namespace Go.Proofs.Ytdiclbejalelfaa
open Go.RowKit

theorem plainOf_val {f : Operand → Option SV} {hs : Nat → Hd} {ρ : Operand → Value} {m : Nat} (hf : ∀ x s, f x = some s → ρ x = s.val hs ∧ s.lt m) {x : Operand} {v : Value} (h : plainOf f x = some v) : ρ x = v := by
  unfold plainOf at h
  split at h
  · simp at h
  · rename_i s hs'
    rw [(hf x s hs').1, SV.plain_val h]
theorem plainAll_val {f : Operand → Option SV} {hs : Nat → Hd} {ρ : Operand → Value} {m : Nat} (hf : ∀ x s, f x = some s → ρ x = s.val hs ∧ s.lt m) {l : List Operand} {r : List Value} (h : plainAll f l = some r) : l.map ρ = r := by
  induction l generalizing r with
  | nil => simp [plainAll] at h; simp [h]
  | cons x l ih =>
    simp only [plainAll] at h
    split at h
    · simp at h
    · rename_i s hs'
      split at h
      · simp at h
      · rename_i v hv
        split at h
        · simp at h
        · rename_i r' hr
          obtain rfl := Option.some.inj h
          rw [List.map_cons, ih hr, (hf x s hs').1, SV.plain_val hv]
theorem parts_val {f : Operand → Option SV} {hs : Nat → Hd} {ρ : Operand → Value} {m : Nat} (hf : ∀ x s, f x = some s → ρ x = s.val hs ∧ s.lt m) {l : List (Nat × Operand)} {r : List (Nat × SV)} (h : parts f l = some r) : l.map (fun p => (p.1, ρ p.2)) = r.map (fun p => (p.1, p.2.val hs)) ∧ ∀ p ∈ r, SV.lt m p.2 := by
  induction l generalizing r with
  | nil => simp [parts] at h; subst h; simp
  | cons x l ih =>
    obtain ⟨i, x⟩ := x
    simp only [parts] at h
    split at h
    · rename_i s r' hs' hr
      obtain rfl := Option.some.inj h
      obtain ⟨h1, h2⟩ := hf x s hs'
      obtain ⟨h3, h4⟩ := ih hr
      refine ⟨by rw [List.map_cons, List.map_cons, h3, h1], fun p hp => ?_⟩
      rcases List.mem_cons.1 hp with rfl | hp
      · exact h2
      · exact h4 p hp
    · simp at h
theorem map_parts {f : Operand → Option SV} {hs : Nat → Hd} {ρ : Operand → Value} {m : Nat} (hf : ∀ x s, f x = some s → ρ x = s.val hs ∧ s.lt m) {l : Array (Nat × Operand)} {r : List (Nat × SV)} (h : parts f l.toList = some r) : (l.map fun (i, x) => (i, ρ x)) = (r.map fun p => (p.1, p.2.val hs)).toArray := by
  rw [← (parts_val hf h).1]
  exact Array.toList_inj.1 (by simp)
theorem cellAll_val {f : Operand → Option SV} {hs : Nat → Hd} {ρ : Operand → Value} {m : Nat} (hf : ∀ x s, f x = some s → ρ x = s.val hs ∧ s.lt m) {l : List Operand} {r : List SV} (h : cellAll f l = some r) : l.map ρ = cvals hs r ∧ ∀ c ∈ r, SV.clt m c := by
  induction l generalizing r with
  | nil => simp [cellAll] at h; subst h; simp [cvals]
  | cons x l ih =>
    simp only [cellAll] at h
    split at h
    · simp at h
    · simp at h
    · rename_i s r' h1 h2 hs' hr
      obtain rfl := Option.some.inj h
      obtain ⟨h3, h4⟩ := hf x s hs'
      obtain ⟨h5, h6⟩ := ih hr
      have h7 : s.val hs = s.cval hs ∧ s.clt m := by
        cases s with
        | agg cs => exact absurd rfl (fun e => h1 cs e)
        | fn g cs => exact absurd rfl (fun e => h2 g cs e)
        | _ => exact ⟨rfl, h4⟩
      refine ⟨by rw [List.map_cons, h5, h3, h7.1]; rfl, fun c hc => ?_⟩
      rcases List.mem_cons.1 hc with rfl | hc
      · exact h7.2
      · exact h6 c hc
    · simp at h

theorem add_none (b o n : Nat) : (⟨b, o, none⟩ : Addr).add n = ⟨b, o + n, none⟩ := by
  unfold Addr.add
  split
  · subst_vars; rfl
  · rfl

theorem cell_box {w : World} {g : Nat} {cs : List Value} {t : TypeId} {fr : Nat × Nat} (h : w.heap[g]? = some (.cells cs.toArray t fr)) (j : Nat) : w.cell? ⟨g, j, none⟩ = cs[j]? := by
  simp [World.cell?, h]

theorem run_load_cells {P : Program} {w : World} {g o : Nat} {r : List Value} (h : ∀ j v, r[j]? = some v → w.cell? ⟨g, o + j, none⟩ = some v) : (loadCells ⟨g, o, none⟩ r.length).run P w = .ok r.toArray w :=
  run_loadCells_list (P := P) w ⟨g, o, none⟩ r (fun j v hv => by rw [add_none]; exact h j v hv)

theorem run_loadVar_agg {P : Program} {T : Tab} (hT : TOk P T) {t : Nat} {x : TI} (h : ti T t = some x) (ha : x.kind.isAgg = true) {w : World} {g o : Nat} {r : List Value} (hl : r.length = x.size) (hr : ∀ j v, r[j]? = some v → w.cell? ⟨g, o + j, none⟩ = some v) :
    (loadVar t ⟨g, o, none⟩).run P w = .ok (.agg r.toArray) w := by
  have hne : x.kind ≠ .other := by intro e; rw [e] at ha; simp [TK.isAgg] at ha
  unfold loadVar
  rw [Sem.run_bind, run_agg hT h hne, Result.andThen_ok, ha, if_pos rfl, Sem.run_bind, run_size hT h, Result.andThen_ok, Sem.run_bind, ← hl, run_load_cells hr]
  rfl
theorem run_loadVar_one {P : Program} {T : Tab} (hT : TOk P T) {t : Nat} {x : TI} (h : ti T t = some x) (ha : x.kind.isAgg = false) (hne : x.kind ≠ .other) {w : World} {g o : Nat} {v : Value} (hr : w.cell? ⟨g, o, none⟩ = some v) :
    (loadVar t ⟨g, o, none⟩).run P w = .ok v w := by
  unfold loadVar
  rw [Sem.run_bind, run_agg hT h hne, Result.andThen_ok, ha, if_neg (by simp), run_load, hr]

theorem ti_cells {P : Program} {T : Tab} (hT : TOk P T) {t : Nat} {x : TI} (h : ti T t = some x) : P.cellsOf t = x.size := by
  obtain ⟨i, u, z, hi, _, _, hs, _⟩ := ti_info hT h
  simp [Program.cellsOf, hi, hs]

theorem run_fieldAt {P : Program} {T : Tab} (hT : TOk P T) {s : Nat} {sz by_ : Nat} {z : List Value} {fs : List (Nat × Nat × TypeId)} (h : ti T s = some ⟨sz, by_, z, .struct fs⟩) {j off size ft : Nat} (hj : fs[j]? = some (off, size + 1, ft)) (b o : Nat) (w : World) :
    (Instr.fieldAt s (.pointer (some ⟨b, o, none⟩)) j).run P w = .ok (.pointer (some ⟨b, o + off, none⟩)) w := by
  obtain ⟨u, hk, hr⟩ := run_und hT h w
  obtain ⟨fl, rfl, hfl, hall⟩ := und_struct hk
  rw [hfl] at hj
  rw [List.getElem?_map] at hj
  obtain ⟨f, hf, hfe⟩ := Option.map_eq_some_iff.1 hj
  have hm : f ∈ fl.toList := List.mem_of_getElem? hf
  rw [Array.getElem?_toList] at hf
  simp only [Prod.mk.injEq] at hfe
  obtain ⟨h1, h2, h3⟩ := hfe
  have hc : (sizeOf f.type).run P w = .ok (size + 1) w := by rw [(hall f hm).2, h2]
  unfold Instr.fieldAt
  rw [Sem.run_bind, hr]
  simp only [Result.andThen_ok, hf, Instr.sureAddr, Sem.run_bind, Sem.run_pure, fieldPlace, hc]
  rw [if_neg (by omega)]
  simp only [Sem.run_pure, Result.andThen_ok, add_none, h1]

theorem run_places {P : Program} {w : World} : ∀ (l : List Field), (∀ f ∈ l, (sizeOf f.type).run P = fun w => .ok (P.cellsOf f.type) w) →
    (l.mapM (fun f => (do pure (f.offset, ← sizeOf f.type) : Sem (Nat × Nat)))).run P w = .ok (l.map fun f => (f.offset, P.cellsOf f.type)) w := by
  intro l
  induction l with
  | nil => intro _; rfl
  | cons f l ih =>
    intro h
    rw [List.mapM_cons, Sem.run_bind, Sem.run_bind, h f List.mem_cons_self]
    simp only [Result.andThen_ok, Sem.run_pure, Sem.run_bind]
    rw [ih (fun g hg => h g (List.mem_cons_of_mem _ hg))]
    rfl

theorem run_build {P : Program} {T : Tab} (hT : TOk P T) {t : Nat} {sz by_ : Nat} {z : List Value} {kd : TK} {fs : List (Nat × Nat × TypeId)} (h : ti T t = some ⟨sz, by_, z, kd⟩) (hfs : partsOf T kd = some fs) {ps : List (Nat × SV)} {r : List SV} {L : List Ent} {hs : Nat → Hd} (hro : RowsOk L hs) (hf : fillL L fs (vs z) ps = some r) (w : World) :
    (Instr.build t (ps.map fun p => (p.1, p.2.val hs)).toArray).run P w = .ok (.agg (cvals hs r).toArray) w := by
  obtain ⟨u, hk, hr⟩ := run_und hT h w
  obtain ⟨zv, hz, hzr⟩ := run_zero hT h w
  have hcells : zv.cells = z.toArray := by rw [← (show zv.cells.toList = z from hz)]
  unfold partsOf at hfs
  split at hfs
  · obtain rfl := Option.some.inj hfs
    obtain ⟨fl, rfl, hfl, hall⟩ := und_struct hk
    unfold Instr.build
    rw [Sem.run_bind, hzr, Result.andThen_ok, Sem.run_bind, hr, Result.andThen_ok]
    simp only
    rw [Sem.run_bind, Array.mapM_eq_mapM_toList, Sem.run_map, run_places fl.toList (fun f hf => (hall f hf).2)]
    simp only [Result.andThen_ok]
    have := fill_of hro hf (fun i => ((fl.toList.map fun f => (f.offset, P.cellsOf f.type)).toArray)[i]?) (fun i f hi => by
      rw [hfl, List.getElem?_map] at hi
      obtain ⟨q, hq, rfl⟩ := Option.map_eq_some_iff.1 hi
      simp only [List.getElem?_toArray, List.getElem?_map, hq]; rfl)
    rw [vs_val] at this
    rw [hcells, this]
    rfl
  · rename_i n e
    split at hfs
    · rename_i size y1 y2 y3 hte
      obtain rfl := Option.some.inj hfs
      obtain rfl := und_arr hk
      unfold Instr.build
      rw [Sem.run_bind, hzr, Result.andThen_ok, Sem.run_bind, hr, Result.andThen_ok]
      simp only
      rw [Sem.run_bind, run_size hT hte]
      simp only [Result.andThen_ok]
      have := fill_of hro hf (fun i => some (i * size, size)) (fun i f hi => by rw [arrFs_get hi]; simp)
      rw [vs_val] at this
      rw [hcells, this]
      rfl
    · simp at hfs
  · simp at hfs

theorem holds_box {w : World} {hs : Nat → Hd} {h : Hd} {t : TypeId} {cs : List SV} (hh : (Ent.box t cs).holds w hs h) (j : Nat) : w.cell? ⟨h.blk, j, none⟩ = (cvals hs cs)[j]? := cell_box hh j

theorem load_part {P : Program} {T : Tab} (hT : TOk P T) {t : Nat} {x : TI} (h : ti T t = some x) {w : World} {g o : Nat} {r : List Value} (hl : r.length = x.size) (hr : ∀ j v, r[j]? = some v → w.cell? ⟨g, o + j, none⟩ = some v) :
    (x.kind.isAgg = true → (loadVar t ⟨g, o, none⟩).run P w = .ok (.agg r.toArray) w) ∧ (x.kind.isAgg = false → x.kind ≠ .other → ∀ v, r = [v] → (loadVar t ⟨g, o, none⟩).run P w = .ok v w) :=
  ⟨fun ha => run_loadVar_agg hT h ha hl hr, fun ha hne v hv => run_loadVar_one hT h ha hne (by have := hr 0 v (by rw [hv]; rfl); rwa [Nat.add_zero] at this)⟩
theorem partS_val {P : Program} {t : Nat} {size by_ : Nat} {z : List Value} {k : TK} {w : World} {a : Addr} {hs : Nat → Hd} {q : List SV} {s : SV} {m : Nat} (h : partS k q = some s) (hq : ∀ c ∈ q, SV.clt m c)
    (hr : ((⟨size, by_, z, k⟩ : TI).kind.isAgg = true → (loadVar t a).run P w = .ok (.agg (cvals hs q).toArray) w) ∧ ((⟨size, by_, z, k⟩ : TI).kind.isAgg = false → (⟨size, by_, z, k⟩ : TI).kind ≠ .other → ∀ v, cvals hs q = [v] → (loadVar t a).run P w = .ok v w)) :
    (loadVar t a).run P w = .ok (s.val hs) w ∧ s.lt m := by
  unfold partS at h
  split at h
  · simp at h
  · split at h
    · rename_i l hl
      obtain rfl := Option.some.inj h
      exact ⟨by rw [hr.1 rfl, toPlain_val hl]; rfl, trivial⟩
    · obtain rfl := Option.some.inj h
      exact ⟨hr.1 rfl, hq⟩
  · split at h
    · rename_i l hl
      obtain rfl := Option.some.inj h
      exact ⟨by rw [hr.1 rfl, toPlain_val hl]; rfl, trivial⟩
    · obtain rfl := Option.some.inj h
      exact ⟨hr.1 rfl, hq⟩
  · rename_i h1 h2 h3
    split at h
    · simp at h
    · simp at h
    · rename_i s' h4 h5
      obtain rfl := Option.some.inj h
      have h7 : k.isAgg = false := by
        cases k with
        | struct fs => exact absurd rfl (h2 fs)
        | arr n e => exact absurd rfl (h3 n e)
        | _ => rfl
      have hc : s'.val hs = s'.cval hs ∧ s'.lt m := by
        have := hq s' List.mem_cons_self
        cases s' with
        | agg cs => exact absurd rfl (h4 cs)
        | fn g cs => exact absurd rfl (h5 g cs)
        | _ => exact ⟨rfl, this⟩
      exact ⟨by rw [hc.1]; exact hr.2 h7 h1 _ rfl, hc.2⟩
    · simp at h
theorem run_field {P : Program} {T : Tab} (hT : TOk P T) {s : Nat} {sz by_ : Nat} {z : List Value} {fs : List (Nat × Nat × TypeId)} (h : ti T s = some ⟨sz, by_, z, .struct fs⟩) {j off size ft : Nat} (hj : fs[j]? = some (off, size, ft)) {size' by' : Nat} {z' : List Value} {k : TK} (hft : ti T ft = some ⟨size', by', z', k⟩) {cs : Array Value} {q : List Value} (hq : q = (cs.toList.drop off).take size') (hl : q.length = size') {w : World} :
    (k.isAgg = true → (Instr.field s (.agg cs) j).run P w = .ok (.agg q.toArray) w) ∧ (k.isAgg = false → k ≠ .other → ∀ v, q = [v] → (Instr.field s (.agg cs) j).run P w = .ok v w) := by
  obtain ⟨u, hk, hr⟩ := run_und hT h w
  obtain ⟨fl, rfl, hfl, hall⟩ := und_struct hk
  rw [hfl, List.getElem?_map] at hj
  obtain ⟨f, hf, hfe⟩ := Option.map_eq_some_iff.1 hj
  rw [Array.getElem?_toList] at hf
  simp only [Prod.mk.injEq] at hfe
  obtain ⟨h1, h2, h3⟩ := hfe
  have hfield : (Instr.field s (.agg cs) j).run P w = (part f.type cs f.offset).run P w := by
    unfold Instr.field
    rw [Sem.run_bind, hr]
    simp only [Result.andThen_ok, hf, asAgg, Sem.run_bind, Sem.run_pure]
  rw [hfield, h3, h1]
  refine ⟨fun ha => ?_, fun ha hne v hv => ?_⟩
  · unfold part
    rw [Sem.run_bind, run_agg hT hft (by intro e; rw [show k = TK.other from e] at ha; simp [TK.isAgg] at ha), Result.andThen_ok]
    rw [show (⟨size', by', z', k⟩ : TI).kind.isAgg = true from ha, if_pos rfl, Sem.run_bind, run_size hT hft]
    simp only [Result.andThen_ok, Sem.run_pure]
    congr 2
    refine Array.toList_inj.1 ?_
    simp [hq, List.take_drop]
  · unfold part
    rw [Sem.run_bind, run_agg hT hft hne, Result.andThen_ok]
    rw [show (⟨size', by', z', k⟩ : TI).kind.isAgg = false from ha, if_neg (by simp)]
    have : cs[off]? = some v := by
      have h5 : q[0]? = some v := by rw [hv]; rfl
      have h6 : 0 < size' := by rw [← hl, hv]; simp
      rw [hq, List.getElem?_take, if_pos h6, List.getElem?_drop] at h5
      simpa using h5
    rw [this]; rfl

section
variable {P : Program} {T : Tab} {f : Operand → Option SV} {hs : Nat → Hd} {ρ : Operand → Value} {L : List Ent} {w : World}

theorem valOp_run (hT : TOk P T) (hf : ∀ x s, f x = some s → ρ x = s.val hs ∧ s.lt L.length) (hL : ∀ (r : Nat) (e : Ent), L[r]? = some e → e.holds w hs (hs r) ∧ e.lt L.length) {o : Oper} {s : SV} (h : valOp T f L o.op = some s) :
    (execOp ρ o).run P w = .ok (.value (s.val hs)) w ∧ s.lt L.length := by
  obtain ⟨dst, op, type, pos, after, guard⟩ := o
  simp only at h
  unfold valOp at h
  split at h
  · obtain ⟨h1, h2⟩ := hf _ _ h
    exact ⟨by simp [execOp, h1], h2⟩
  · obtain ⟨h1, h2⟩ := hf _ _ h
    exact ⟨by simp [execOp, h1], h2⟩
  · split at h
    · rename_i a b ha hb
      split at h
      · rename_i v hv
        obtain rfl := Option.some.inj h
        refine ⟨?_, trivial⟩
        simp only [execOp, plainOf_val hf ha, plainOf_val hf hb]
        rw [Sem.run_bind, binV_run hT hv]; rfl
      · simp at h
    · simp at h
  · split at h
    · rename_i hx; obtain rfl := Option.some.inj h; exact ⟨by simp [execOp, (hf _ _ hx).1, SV.val, SV.cval, Op.unary], trivial⟩
    · rename_i hx; obtain rfl := Option.some.inj h; exact ⟨by simp [execOp, (hf _ _ hx).1, SV.val, SV.cval, Op.unary], trivial⟩
    · rename_i hx; obtain rfl := Option.some.inj h; exact ⟨by simp [execOp, (hf _ _ hx).1, SV.val, SV.cval, Op.unary], trivial⟩
    · simp at h
  · split at h
    · rename_i hx; obtain rfl := Option.some.inj h; exact ⟨by simp [execOp, (hf _ _ hx).1, SV.val, SV.cval, Op.unary, Op.intArith], trivial⟩
    · simp at h
  · split at h
    · rename_i vs hx
      split at h
      · rename_i v hv
        obtain rfl := Option.some.inj h
        rw [nth_eq, Array.getElem?_toList] at hv
        exact ⟨by simp [execOp, (hf _ _ hx).1, SV.val, SV.cval, Instr.extract, hv], trivial⟩
      · simp at h
    · simp at h
  · split at h
    · rename_i ht
      split at h
      · rename_i hj
        rw [nth_eq] at hj
        split at h
        · rename_i r o hx
          obtain rfl := Option.some.inj h
          obtain ⟨h1, h2⟩ := hf _ _ hx
          refine ⟨?_, h2⟩
          simp only [execOp, h1, SV.val, SV.cval]
          rw [Sem.run_bind, run_fieldAt hT ht hj]; rfl
        · rename_i b o hx
          obtain rfl := Option.some.inj h
          obtain ⟨h1, h2⟩ := hf _ _ hx
          refine ⟨?_, trivial⟩
          simp only [execOp, h1, SV.val, SV.cval]
          rw [Sem.run_bind, run_fieldAt hT ht hj]; rfl
        · simp at h
      · simp at h
    · simp at h
  · split at h
    · rename_i r o hx
      obtain ⟨h1, h2⟩ := hf _ _ hx
      split at h
      · rename_i bt cs hr
        rw [nth_eq] at hr
        obtain ⟨hb, hlt⟩ := hL r _ hr
        split at h
        · rename_i size by_ z k ht
          split at h
          · simp at h
          · rename_i l hl
            split at h
            · simp at h
            · rename_i q hq
              have hl' := dropN_eq hl
              obtain ⟨hq1, hq2⟩ := takeN_eq hq
              have hqc : ∀ c ∈ q, SV.clt L.length c := fun c hc => hlt c (by rw [hq1, hl'] at hc; exact List.mem_of_mem_drop (List.mem_of_mem_take hc))
              have key : ∀ j v, (cvals hs q)[j]? = some v → w.cell? ⟨(hs r).blk, o + j, none⟩ = some v := by
                intro j v hv
                rw [holds_box hb]
                have hj : j < q.length := by have := (List.getElem?_eq_some_iff.1 hv).1; rwa [cvals_len] at this
                rw [cvals, List.getElem?_map, hq1, List.getElem?_take, if_pos (by omega), hl', List.getElem?_drop] at hv
                rw [cvals, List.getElem?_map]
                exact hv
              have hrun := load_part hT ht (w := w) (g := (hs r).blk) (o := o) (r := cvals hs q) (by rw [cvals_len]; exact hq2) key
              obtain ⟨h3, h4⟩ := partS_val (hs := hs) h hqc hrun
              refine ⟨?_, h4⟩
              simp only [execOp, h1, SV.val, SV.cval, Instr.loadAt, Instr.sureAddr, Sem.run_bind, Sem.run_pure, Result.andThen_ok]
              rw [h3]; rfl
        · simp at h
      · simp at h
    · simp at h
  · split at h
    · rename_i hts
      split at h
      · rename_i hj hx
        rw [nth_eq] at hj
        split at h
        · rename_i htf
          split at h
          · simp at h
          · rename_i l hl
            split at h
            · simp at h
            · rename_i q hq
              have hl' := dropN_eq hl
              obtain ⟨hq1, hq2⟩ := takeN_eq hq
              have hr := run_field hT hts hj htf (q := q) (by rw [hq1, hl'])  hq2 (w := w)
              simp only [execOp, (hf _ _ hx).1, SV.val, SV.cval]
              split at h
              · simp at h
              · obtain rfl := Option.some.inj h
                refine ⟨?_, trivial⟩
                rw [Sem.run_bind, hr.1 rfl]; rfl
              · obtain rfl := Option.some.inj h
                refine ⟨?_, trivial⟩
                rw [Sem.run_bind, hr.1 rfl]; rfl
              · rename_i K y4 y3 k2 q2 v hno hst har
                obtain rfl := Option.some.inj h
                refine ⟨?_, trivial⟩
                have h7 : K.isAgg = false := by
                  cases K with
                  | struct fs => exact absurd rfl (fun e => hst fs e)
                  | arr n e => exact absurd rfl (fun e' => har n e e')
                  | _ => rfl
                rw [Sem.run_bind, hr.2 h7 (fun e => hno e) v rfl]; rfl
              · simp at h
        · simp at h
      · simp at h
    · simp at h
  · split at h
    · rename_i tt pp xx sz1 by1 z1 kd1 ht
      split at h
      · simp at h
      · rename_i fs1 hfs
        split at h
        · simp at h
        · rename_i ps hps
          split at h
          · simp at h
          · rename_i z' hz'
            obtain rfl := forceL_eq hz'
            split at h
            · simp at h
            · rename_i r hr
              have hro := rowsOk (fun r e hr => (hL r e hr).1)
              have hrun := run_build hT ht hfs hro hr w
              have hclt := fillL_clt hr (parts_val hf hps).2 (vs_clt _ _)
              have hex : (execOp ρ ⟨dst, .build tt pp, type, pos, after, guard⟩).run P w = .ok (.value (.agg (cvals hs r).toArray)) w := by
                simp only [execOp]
                rw [Sem.run_bind]
                refine (congrArg (fun q => Result.andThen (Sem.run P (Instr.build _ q) w) _) (map_parts hf hps)).trans ?_
                rw [hrun]; rfl
              split at h
              · rename_i l hl
                obtain rfl := Option.some.inj h
                refine ⟨?_, trivial⟩
                rw [hex, toPlain_val hl]; rfl
              · obtain rfl := Option.some.inj h
                exact ⟨hex, hclt⟩
    · simp at h
  · split at h
    · rename_i r o hx
      obtain rfl := Option.some.inj h
      obtain ⟨h1, h2⟩ := hf _ _ hx
      refine ⟨?_, h2⟩
      simp only [execOp, h1, SV.val, SV.cval, Sem.run_pure]
    · rename_i a hx
      obtain rfl := Option.some.inj h
      obtain ⟨h1, h2⟩ := hf _ _ hx
      refine ⟨?_, trivial⟩
      simp only [execOp, h1, SV.val, SV.cval, Sem.run_pure]
    · simp at h
  · split at h
    · rename_i tt xx ii yy s1 s2 s3 n e ht
      split at h
      · rename_i size y1 y2 y3 k i hte hix
        split at h
        · simp at h
        · rename_i hlt
          have hin : i < n := by rwa [Nat.blt_eq] at hlt
          obtain ⟨ud, hk, hru⟩ := run_und hT ht w
          obtain rfl := und_arr hk
          have hiv := (hf _ _ hix).1
          have key : ∀ b o, (Instr.indexAt tt (.pointer (some ⟨b, o, none⟩)) (.int k (.ofNat i))).run P w = .ok (.pointer (some ⟨b, o + i * size, none⟩)) w := fun b o => by
            simp only [Instr.indexAt, asIntOf, Instr.sureAddr, Sem.run_bind, Sem.run_pure, Result.andThen_ok, hru]
            rw [if_pos ⟨Int.natCast_nonneg i, Int.ofNat_lt.2 hin⟩, Sem.run_bind, run_size hT hte]
            simp only [Sem.run_pure, Result.andThen_ok, add_none]
            rfl
          split at h
          · rename_i r o hx
            obtain rfl := Option.some.inj h
            obtain ⟨h1, h2⟩ := hf _ _ hx
            refine ⟨?_, h2⟩
            simp only [execOp, h1, hiv, SV.val, SV.cval]
            rw [Sem.run_bind, key]; rfl
          · rename_i b o hx
            obtain rfl := Option.some.inj h
            obtain ⟨h1, h2⟩ := hf _ _ hx
            refine ⟨?_, trivial⟩
            simp only [execOp, h1, hiv, SV.val, SV.cval]
            rw [Sem.run_bind, key]; rfl
          · simp at h
      · simp at h
    · simp at h
  · split at h
    · rename_i hs1 hd1
      split at h
      · rename_i hx
        obtain rfl := Option.some.inj h
        refine ⟨?_, trivial⟩
        obtain ⟨u, hk, hr⟩ := run_und hT hs1 w
        obtain ⟨u', hk', hr'⟩ := run_und hT hd1 w
        obtain rfl := und_int hk'
        obtain rfl := und_int hk
        simp only [execOp, (hf _ _ hx).1, SV.val, SV.cval, convert, Sem.run_bind, hr, hr', Result.andThen_ok, Conv.intToInt, Sem.run_pure]
      · simp at h
    · simp at h
  · split at h
    · rename_i b ha hb
      obtain ⟨h1, h2⟩ := cellAll_val hf hb
      rename_i fn first captured _ _
      obtain rfl : first = #[] := Array.toList_inj.1 ha
      have hcap : captured.map ρ = (cvals hs b).toArray := by rw [← h1, ← Array.toList_map]
      split at h
      · rename_i l hl
        obtain rfl := Option.some.inj h
        refine ⟨?_, trivial⟩
        simp [execOp, Instr.makeFunc, SV.val, SV.cval, hcap, toPlain_val hl]
      · obtain rfl := Option.some.inj h
        refine ⟨?_, h2⟩
        simp [execOp, Instr.makeFunc, SV.val, SV.cval, hcap]
    · simp at h
  · split at h
    · simp at h
    · simp at h
    · rename_i x ho1 ho2 ht
      obtain ⟨u, hk, hr⟩ := run_und hT ht w
      split at h
      · rename_i r o hx
        obtain rfl := Option.some.inj h
        obtain ⟨h1, h2⟩ := hf _ _ hx
        refine ⟨?_, h2⟩
        simp only [execOp, h1, Instr.makeInterface, Sem.run_bind, hr, Result.andThen_ok, SV.val, SV.cval]
        cases u <;> first
          | rfl
          | (exfalso; obtain ⟨s1, s2, s3, s4⟩ := x; simp only [TK.of] at hk; subst hk; exact ho1 _ _ _ rfl)
      · rename_i s _ hx
        split at h
        · rename_i v hv
          obtain rfl := Option.some.inj h
          obtain ⟨h1, h2⟩ := hf _ _ hx
          have h3 := h1.trans (SV.plain_val hv hs)
          refine ⟨?_, trivial⟩
          simp only [execOp, h3, Instr.makeInterface, Sem.run_bind, hr, Result.andThen_ok, SV.val, SV.cval]
          cases u <;> first
            | rfl
            | (exfalso; obtain ⟨s1, s2, s3, s4⟩ := x; simp only [TK.of] at hk; subst hk; exact ho1 _ _ _ rfl)
        · simp at h
      · simp at h
    · simp at h
  · split at h
    · rename_i args tys _ _ x t hx ht
      obtain rfl : args = #[x] := Array.toList_inj.1 hx
      obtain rfl : tys = #[t] := Array.toList_inj.1 ht
      split at h
      · rename_i hti
        obtain ⟨u, hk, hr⟩ := run_und hT hti w
        obtain rfl := und_slice hk
        split at h
        · rename_i hx'
          obtain rfl := Option.some.inj h
          refine ⟨?_, trivial⟩
          simp [execOp, resolve, invoke, builtin, Builtin.len_, (hf _ _ hx').1, SV.val, SV.cval, hr, goInt]
        · rename_i r hx'
          split at h
          · rename_i e sz n es hr'
            obtain rfl := Option.some.inj h
            refine ⟨?_, trivial⟩
            rw [nth_eq] at hr'
            obtain ⟨h1, h2, h3, ⟨h4, h5⟩, h6⟩ := (hL r _ hr').1
            have hval : ∃ A c, (hs r).val = .slice A n c := by
              rcases h5 with ⟨h7, h8⟩ | ⟨g, cap, cur, h7, _⟩
              · exact ⟨none, 0, by rw [h7, h8]⟩
              · exact ⟨_, _, h7⟩
            obtain ⟨A, c, hv⟩ := hval
            simp [execOp, resolve, invoke, builtin, Builtin.len_, (hf _ _ hx').1, SV.val, SV.cval, hr, goInt, hv]
          · simp at h
        · simp at h
      · rename_i hti
        obtain ⟨u, hk, hr⟩ := run_und hT hti w
        obtain rfl := und_str hk
        split at h
        · rename_i hx'
          obtain rfl := Option.some.inj h
          refine ⟨?_, trivial⟩
          simp [execOp, resolve, invoke, builtin, Builtin.len_, (hf _ _ hx').1, SV.val, SV.cval, hr, goInt]
        · simp at h
      · simp at h
    · simp at h
  · split at h
    · rename_i args _ _ x y hx
      obtain rfl : args = #[x, y] := Array.toList_inj.1 hx
      split at h
      · rename_i hx' hy'
        obtain rfl := Option.some.inj h
        refine ⟨?_, trivial⟩
        simp [execOp, resolve, invoke, builtin, Builtin.min_, Builtin.min2, (hf _ _ hx').1, (hf _ _ hy').1, SV.val, SV.cval]
      · simp at h
    · simp at h
  · split at h
    · rename_i args _ _ x y hx
      obtain rfl : args = #[x, y] := Array.toList_inj.1 hx
      split at h
      · rename_i hx' hy'
        obtain rfl := Option.some.inj h
        refine ⟨?_, trivial⟩
        simp [execOp, resolve, invoke, builtin, Builtin.max_, Builtin.max2, (hf _ _ hx').1, (hf _ _ hy').1, SV.val, SV.cval]
      · simp at h
    · simp at h
  · simp at h
end
end Go.Proofs.Ytdiclbejalelfaa
