/- Calls that hand back what they own; structs compared; maps of the call's own; slots seen anew. No condition. -/
import Derived.Test.YtdiclbejalelfaaFwJ
set_option linter.unusedVariables false
set_option linter.unusedSimpArgs false
namespace Go.Proofs.Ytdiclbejalelfaa
open Go.RowKit
open Rep (R)

/-! ### slots seen anew -/
def sameS : SV → SV → Prop
  | .tt, .v (.bool b) => b = true
  | .ff, .v (.bool b) => b = false
  | .agg cs, .v (.agg a) => ∃ l, toPlain cs = some l ∧ a = l.toArray
  | s, t => s = t
theorem sameS_val {s t : SV} (h : sameS s t) (hs : Nat → Hd) : s.val hs = t.val hs ∧ ∀ m, s.lt m → t.lt m := by
  unfold sameS at h
  split at h
  · subst h; exact ⟨rfl, fun _ _ => trivial⟩
  · subst h; exact ⟨rfl, fun _ _ => trivial⟩
  · obtain ⟨l, h1, rfl⟩ := h
    refine ⟨?_, fun _ _ => trivial⟩
    simp only [SV.val, SV.cval, toPlain_val h1]
  · subst h; exact ⟨rfl, fun _ h => h⟩
def SubS : Env → Env → Prop
  | [], _ => True
  | (d, some s) :: l, e => (∃ s0, find e d = some s0 ∧ sameS s0 s) ∧ SubS l e
  | (_, none) :: l, e => False
theorem SubS.find {e' e : Env} (h : SubS e' e) : ∀ t s, Proofs.Ytdiclbejalelfaa.find e' t = some s → ∃ s0, Proofs.Ytdiclbejalelfaa.find e t = some s0 ∧ sameS s0 s := by
  induction e' with
  | nil => intro t s h; simp [Proofs.Ytdiclbejalelfaa.find] at h
  | cons x l ih =>
    obtain ⟨d, o⟩ := x
    cases o with
    | none => exact False.elim h
    | some sv =>
      intro t s ht
      simp only [Proofs.Ytdiclbejalelfaa.find] at ht
      split at ht
      · rename_i hb
        obtain rfl := Nat.eq_of_beq_eq_true hb
        obtain rfl := Option.some.inj ht
        exact h.1
      · exact ih h.2 t s ht
theorem Sim.anew {C : Ctx} {env env' : Env} {L : List Ent} {G : Ghost} {hs : Nat → Hd} {a : Act} {w : World} (S : Sim C env L G hs a w) (h : SubS env' env) : Sim C env' L G hs a w :=
  ⟨S.defers, S.size, fun t s ht => by
    obtain ⟨s0, h1, h2⟩ := h.find t s ht
    obtain ⟨h3, h4⟩ := S.slot t s0 h1
    obtain ⟨h5, h6⟩ := sameS_val h2 hs
    exact ⟨by rw [h3, h5], h6 _ h4⟩, S.le, S.ok, S.new, S.below, S.holds, S.own, S.apart⟩

/-- A box's cells seen anew, resources that are no longer needed given up. -/
def sameE : Ent → Ent → Prop
  | .box t cs, .box t' cs' => t = t' ∧ ∃ vs, toPlain cs = some vs ∧ toPlain cs' = some vs
  | _, .gone => True
  | e, e' => e = e'
def SubL : List Ent → List Ent → Prop
  | [], [] => True
  | e' :: l', e :: l => (sameE e e' ∨ e = e') ∧ SubL l' l
  | _, _ => False
theorem SubL.len {l' l : List Ent} (h : SubL l' l) : l'.length = l.length := by
  induction l' generalizing l with
  | nil => cases l with
    | nil => rfl
    | cons _ _ => exact False.elim h
  | cons e' l' ih => cases l with
    | nil => exact False.elim h
    | cons e l => simp [ih h.2]
theorem SubL.get {l' l : List Ent} (h : SubL l' l) : ∀ (r : Nat) (e' : Ent), l'[r]? = some e' → ∃ e, l[r]? = some e ∧ (sameE e e' ∨ e = e') := by
  induction l' generalizing l with
  | nil => intro r e' h; simp at h
  | cons x l' ih => cases l with
    | nil => exact False.elim h
    | cons e l =>
      intro r e' hr
      cases r with
      | zero => simp at hr; subst hr; exact ⟨e, rfl, h.1⟩
      | succ r => simpa using ih h.2 r e' (by simpa using hr)
theorem sameE_holds {e e' : Ent} (h : sameE e e' ∨ e = e') {w : World} {hs : Nat → Hd} {hd : Hd} (hh : e.holds w hs hd) : e'.holds w hs hd := by
  rcases h with h | rfl
  · unfold sameE at h
    split at h
    · obtain ⟨rfl, vs, h1, h2⟩ := h
      simp only [Ent.holds] at hh ⊢
      rw [toPlain_val h2, ← toPlain_val h1]; exact hh
    · trivial
    · subst h; exact hh
  · exact hh
theorem toPlain_clt {cs : List SV} {vs : List Value} (h : toPlain cs = some vs) (m : Nat) : ∀ c ∈ cs, SV.clt m c := by
  induction cs generalizing vs with
  | nil => intro c hc; simp at hc
  | cons s l ih =>
    simp only [toPlain] at h
    split at h
    · rename_i x r hx hr
      intro c hc
      rcases List.mem_cons.1 hc with rfl | hc
      · cases c <;> simp [SV.plain] at hx <;> trivial
      · exact ih hr c hc
    · simp at h
theorem sameE_lt {e e' : Ent} (h : sameE e e' ∨ e = e') {m : Nat} (hl : e.lt m) : e'.lt m := by
  rcases h with h | rfl
  · unfold sameE at h
    split at h
    · obtain ⟨rfl, vs, h1, h2⟩ := h
      exact toPlain_clt h2 m
    · trivial
    · subst h; exact hl
  · exact hl
theorem sameE_at {e e' : Ent} (h : sameE e e' ∨ e = e') {hd : Hd} {k : Nat} (hk : e'.at_ hd = some k) : e.at_ hd = some k := by
  rcases h with h | rfl
  · unfold sameE at h
    split at h
    · exact hk
    · simp [Ent.at_] at hk
    · subst h; exact hk
  · exact hk
theorem Sim.anewL {C : Ctx} {env : Env} {L L' : List Ent} {G : Ghost} {hs : Nat → Hd} {a : Act} {w : World} (S : Sim C env L G hs a w) (h : SubL L' L) : Sim C env L' G hs a w := by
  refine ⟨S.defers, S.size, fun t s ht => by rw [h.len]; exact S.slot t s ht, S.le, S.ok, S.new, S.below, fun r e hr => ?_, fun r e k hr hk => ?_, fun r r' e e' k h1 h2 h3 h4 => ?_⟩
  · obtain ⟨e0, h1, h2⟩ := h.get r e hr
    obtain ⟨h3, h4⟩ := S.holds r e0 h1
    rw [h.len]
    exact ⟨sameE_holds h2 h3, sameE_lt h2 h4⟩
  · obtain ⟨e0, h1, h2⟩ := h.get r e hr
    exact S.own r e0 k h1 (sameE_at h2 hk)
  · obtain ⟨e0, h5, h6⟩ := h.get r e h1
    obtain ⟨e1, h7, h8⟩ := h.get r' e' h2
    exact S.apart r r' e0 e1 k h5 h7 (sameE_at h6 h3) (sameE_at h8 h4)

section
variable {P : Program} {T : Tab} {lops l l' : List Oper} {Q : Exit → Act → World → Prop} {C : Ctx} {env env' : Env} {gv gv' : GV} {L L' : List Ent} {G G' : Ghost} {o : Oper}

theorem E.anew {c : Code} (h : SubS env' env) (hL : SubL L' L) (k : E P c Q C env' L' G) : E P c Q C env L G := fun hs a w S => k hs a w ((S.anew h).anewL hL)
theorem EX.anew {e : Exit} (h : SubS env' env) (hL : SubL L' L) (k : EX Q e C env' L' G) : EX Q e C env L G := fun hs a w S => k hs a w ((S.anew h).anewL hL)

/-! ### a call that hands back what it owns -/
def shC (m : Nat) : SV → SV
  | .p _ o => .p m o
  | .row _ => .row m
  | .mp _ => .mp m
  | .ip t _ o => .ip t m o
  | s => s
def shS (m : Nat) : SV → SV
  | .agg cs => .agg (cs.map (shC m))
  | .fn f cs => .fn f (cs.map (shC m))
  | s => shC m s
theorem shC_val (m : Nat) (s : SV) (hs : Nat → Hd) : (shC m s).cval hs = s.cval (fun _ => hs m) := by cases s <;> rfl
theorem shL_val (m : Nat) (cs : List SV) (hs : Nat → Hd) : cvals hs (cs.map (shC m)) = cvals (fun _ => hs m) cs := by
  simp only [cvals, List.map_map]
  exact List.map_congr_left (fun c _ => shC_val m c hs)
theorem shS_val (m : Nat) (s : SV) (hs : Nat → Hd) : (shS m s).val hs = s.val (fun _ => hs m) := by
  cases s with
  | agg cs => simp only [shS, SV.val, shL_val]
  | fn f cs => simp only [shS, SV.val, shL_val]
  | _ => rfl
theorem shC_lt (m n : Nat) (h : m < n) (s : SV) : (shC m s).clt n := by cases s <;> first | exact h | trivial
theorem shS_lt (m n : Nat) (h : m < n) (s : SV) : (shS m s).lt n := by
  cases s with
  | agg cs => intro c hc; obtain ⟨c', _, rfl⟩ := List.mem_map.1 hc; exact shC_lt m n h c'
  | fn f cs => intro c hc; obtain ⟨c', _, rfl⟩ := List.mem_map.1 hc; exact shC_lt m n h c'
  | v x => trivial
  | tt => trivial
  | ff => trivial
  | p r o => exact h
  | row r => exact h
  | mp r => exact h
  | ip t r o => exact h

/-- The call returns something of which one resource is its caller's from now on. -/
def RetO (P : Program) (f : FuncId) (args : List Value) (w : World) (G : Ghost) (Ψ : Ghost → Ent → SV → Prop) : Prop :=
  Calls P f args.toArray w fun e w' => ∃ s ent hd G', e = .returned (s.val (fun _ => hd)) ∧ ent.lt 0 ∧ Ext w w' G G' ∧ ent.holds w' (fun _ => hd) hd ∧
    (∀ k, ent.at_ hd = some k → w.heap.size ≤ k ∧ k < w'.heap.size ∧ ∀ x : Addr, x.block = k → G' x = none) ∧ Ψ G' ent s

theorem ent_any {ent : Ent} (h : ent.lt 0) {w : World} {hs hs' : Nat → Hd} {hd : Hd} (hh : ent.holds w hs hd) : ent.holds w hs' hd := Ent.holds_lt hh h (fun r hr => absurd hr (Nat.not_lt_zero _))

theorem Sim.adopt {hs : Nat → Hd} {a : Act} {w : World} (S : Sim C env L G hs a w) {B : Nat} (hB : ∀ (r : Nat) (e : Ent) (k : Nat), L[r]? = some e → e.at_ (hs r) = some k → k < B) (h0 : C.w0.heap.size ≤ B) {ent : Ent} {hd : Hd} (hl : ent.lt 0) (hh : ent.holds w (fun _ => hd) hd)
    (hk : ∀ k, ent.at_ hd = some k → B ≤ k ∧ k < w.heap.size ∧ ∀ x : Addr, x.block = k → G x = none) :
    Sim C env (L ++ [ent]) G (fun r => if r = L.length then hd else hs r) a w := by
  have heq : ∀ r, r < L.length → (fun r => if r = L.length then hd else hs r) r = hs r := fun r hr => if_neg (Nat.ne_of_lt hr)
  have hold : ∀ (r : Nat) e', (L ++ [ent])[r]? = some e' → (r < L.length ∧ L[r]? = some e') ∨ (r = L.length ∧ e' = ent) := by
    intro r e' hr
    rcases Nat.lt_or_ge r L.length with hlt | hge
    · rw [List.getElem?_append_left hlt] at hr; exact .inl ⟨hlt, hr⟩
    · rw [List.getElem?_append_right hge] at hr
      have : r - L.length = 0 := by
        rcases Nat.eq_zero_or_pos (r - L.length) with h0 | h0
        · exact h0
        · rw [List.getElem?_eq_none (by simp; omega)] at hr; simp at hr
      rw [this] at hr
      exact .inr ⟨by omega, by simpa using hr.symm⟩
  refine ⟨S.defers, S.size, fun t u ht => ?_, S.le, S.ok, S.new, S.below, fun r e' hr => ?_, fun r e' k hr hk' => ?_, fun r r' e1 e2 k h1 h2 h3 h4 => ?_⟩
  · obtain ⟨h1, h2⟩ := S.slot t u ht
    exact ⟨by rw [h1, SV.val_lt h2 heq], SV.lt_mono h2 (by simp)⟩
  · rcases hold r e' hr with ⟨hlt, hr'⟩ | ⟨rfl, rfl⟩
    · obtain ⟨h1, h2⟩ := S.holds r e' hr'
      simp only [if_neg (Nat.ne_of_lt hlt)]
      exact ⟨Ent.holds_lt h1 h2 heq, Ent.lt_mono h2 (by simp)⟩
    · simp only [if_pos]
      exact ⟨ent_any hl hh, Ent.lt_mono hl (Nat.zero_le _)⟩
  · rcases hold r e' hr with ⟨hlt, hr'⟩ | ⟨rfl, rfl⟩
    · simp only [if_neg (Nat.ne_of_lt hlt)] at hk'; exact S.own r e' k hr' hk'
    · simp only [if_pos] at hk'
      obtain ⟨h1, h2, h3⟩ := hk k hk'
      exact ⟨.inl (Nat.le_trans h0 h1), h2, h3⟩
  · rcases hold r e1 h1 with ⟨hlt, hr⟩ | ⟨rfl, rfl⟩
    · simp only [if_neg (Nat.ne_of_lt hlt)] at h3
      rcases hold r' e2 h2 with ⟨hlt', hr'⟩ | ⟨rfl, rfl⟩
      · simp only [if_neg (Nat.ne_of_lt hlt')] at h4
        exact S.apart r r' e1 e2 k hr hr' h3 h4
      · simp only [if_pos] at h4
        have := (hk k h4).1
        have := hB r e1 k hr h3
        omega
    · simp only [if_pos] at h3
      rcases hold r' e2 h2 with ⟨hlt', hr'⟩ | ⟨rfl, rfl⟩
      · simp only [if_neg (Nat.ne_of_lt hlt')] at h4
        have := (hk k h3).1
        have := hB r' e2 k hr' h4
        omega
      · rfl

theorem EL.callO {d f : Nat} {xs : Array Operand} {tys : Array TypeId} {vs : List Value} {Ψ : Ghost → Ent → SV → Prop} (hg : goes lops env o.guard = true) (hd : okDst C.n gv o.dst = some d)
    (ho : o.op = .call ⟨.value (.func f), xs, tys⟩) (hv : plainAll (ev env gv []) xs.toList = some vs) (hen : Enters P f) (spec : ∀ w, Holds G w → RetO P f vs w G Ψ)
    (k : ∀ s ent G', GLe G G' → Ψ G' ent s → EL P lops Q C l ((d, some (shS (len' L) s)) :: env) gv (app L ent) G') : EL P lops Q C (o :: l) env gv L G := by
  intro hs a w S g
  obtain ⟨h1, h2, h3⟩ := okDst_eq hd
  unfold wpList
  rw [if_pos (goes_wanted S hg)]
  have hargs : xs.map a.eval = vs.toArray := by rw [← plainAll_ev S g hv, ← Array.toList_map]
  refine .inl ?_
  have hrun : (execOp a.eval o).run P w = .ok (.enter f vs.toArray) w := by
    simp only [execOp, ho, resolve, hargs, Act.eval, Deferred.ofValue, invoke, Sem.run_bind, Sem.run_pure, Result.andThen_ok, Array.empty_append, Array.append_empty]
    rw [hen.run]
  unfold Oper.wp
  rw [hrun, Oper.upon_enter]
  refine Calls.mono (spec w S.ok) ?_
  rintro e w' ⟨s, ent, hd', G', rfl, hl, hext, hh, hk, hΨ⟩
  show wpList P lops.toArray Q l (a.put o.dst _) w'
  rw [h1]
  have S1 := S.ext hext
  have S2 := S1.adopt (B := w.heap.size) (fun r e k hr hk => (S.own r e k hr hk).2.1) S.below.size hl hh hk
  have S3 := S2.put h2 (s := shS L.length s) (shS_lt _ _ (by simp) s)
  rw [shS_val] at S3
  simp only [if_pos] at S3
  have nx := k s ent G' hext.le hΨ
  rw [len'_eq, app_eq] at nx
  exact nx _ _ w' S3 ((g.move (by simp) (fun r hr => by simp [Nat.ne_of_lt hr])).put h3 _)

/-- What is returned, seen as slots are. -/
def resS (T : Tab) (env : Env) (L : List Ent) : ResultVar → Option SV
  | .tmp t => ev env gnil [] (.tmp t)
  | .cell t ty => valOp T (ev env gnil []) L (.load ty (.tmp t))
theorem resS_run (hT : TOk P T) {hs : Nat → Hd} {a : Act} {w : World} (S : Sim C env L G hs a w) {fn : Func} {rv : ResultVar} {s : SV} (hr : fn.results.toList = [rv]) (h : resS T env L rv = some s) : (results fn a.tmps).run P w = .ok (s.val hs) w ∧ s.lt L.length := by
  have hone : (match rv with | .tmp t => pure (a.tmps.getD t undef) | .cell x t => do loadVar t (← asAddr (a.tmps.getD x undef)) : Sem Value).run P w = .ok (s.val hs) w ∧ s.lt L.length := by
    cases rv with
    | tmp t =>
      obtain ⟨h1, h2⟩ := ev_val (gv := gnil) (cur := []) S (GOk.nil C L hs a) (fun _ h => absurd h (by simp)) (x := .tmp t) h
      simp only [Act.eval] at h1
      exact ⟨by simp [h1], h2⟩
    | cell t ty =>
      obtain ⟨hrun, hlt⟩ := valOp_run (o := ⟨none, .load ty (.tmp t), 0, "", #[], none⟩) hT (fun x s hx => ev_val S (GOk.nil C L hs a) (fun _ h => absurd h (by simp)) hx) S.holds h
      refine ⟨?_, hlt⟩
      simp only [execOp] at hrun
      show (do loadVar ty (← asAddr (a.tmps.getD t undef)) : Sem Value).run P w = .ok (s.val hs) w
      rw [Sem.run_bind] at hrun ⊢
      unfold Instr.loadAt at hrun
      rw [Sem.run_bind] at hrun
      simp only [Act.eval] at hrun
      generalize a.tmps.getD t undef = q at hrun ⊢
      unfold Instr.sureAddr at hrun
      split at hrun
      · simp only [asAddr, Sem.run_pure, Result.andThen_ok] at hrun ⊢
        cases hx : (loadVar ty _).run P w with
        | ok x w1 =>
          rw [hx] at hrun
          simp only [Result.andThen_ok, Sem.run_pure, Result.ok.injEq, Next.value.injEq] at hrun
          rw [hrun.1, hrun.2]
        | halt x w1 => rw [hx] at hrun; simp at hrun
      · simp at hrun
  refine ⟨?_, hone.2⟩
  unfold results
  rw [Sem.run_bind, Array.mapM_eq_mapM_toList, Sem.run_map, hr, List.mapM_cons, List.mapM_nil, Sem.run_bind]
  cases rv with
  | tmp t =>
    have h1 := hone.1
    simp only [Sem.run_pure, Result.ok.injEq, and_true] at h1
    simp [h1]
  | cell x t =>
    simp only [hone.1, Result.andThen_ok, Sem.run_bind, Sem.run_pure]
    rfl

theorem startO {f : FuncId} {fn : Func} {c : Code} {n : Nat} {vs : List Value} {w : World} {Ψ : Ghost → Ent → SV → Prop} (hf : P.funcs[f]? = some fn) (hb : fn.body = some c) (hn : fn.ntmps = n) (hl : Nat.ble vs.length n = true) (hG : Holds G w)
    (k : E P c (bodyPost P fn fun e w' => ∃ s ent hd G', e = .returned (s.val (fun _ => hd)) ∧ ent.lt 0 ∧ Ext w w' G G' ∧ ent.holds w' (fun _ => hd) hd ∧
      (∀ k, ent.at_ hd = some k → w.heap.size ≤ k ∧ k < w'.heap.size ∧ ∀ x : Addr, x.block = k → G' x = none) ∧ Ψ G' ent s) ⟨n, w, G, fun _ => false⟩ (env0 0 vs) [] G) : RetO P f vs w G Ψ := by
  refine calls_of_wp hf hb (k (fun _ => ⟨0, undef⟩) _ w ?_)
  have hl' : vs.length ≤ n := by simpa using hl
  refine ⟨rfl, by simp [hn]; omega, fun t s ht => ?_, GLe.refl _, hG, fun x v hx => .inl hx, BelowX.refl _ _, fun r e hr => by simp at hr, fun r e k hr => by simp at hr, fun r r' e e' k hr => by simp at hr⟩
  obtain ⟨v, rfl, _, hv⟩ := find_env0 vs 0 t s ht
  have hlt : t < vs.length := by
    have := (List.getElem?_eq_some_iff.1 hv).1; omega
  refine ⟨?_, trivial⟩
  rw [Array.getElem?_append_left (by simpa using hlt)]
  simpa [SV.val, SV.cval] using hv

/-- It is returned, resource r with it. -/
theorem EX.retO {fn : Func} {rv : ResultVar} {s : SV} {Ψ : Ghost → Ent → SV → Prop} {r : Nat} {ent : Ent} (hT : TOk P T) (hrv : fn.results.toList = [rv]) (h : resS T env L rv = some (shS r s)) (hr : nth L r = some ent) (hl : ent.lt 0) (hΨ : Ψ G ent s) {n : Nat} {w0 : World} {G0 : Ghost} :
    EX (bodyPost P fn fun e w' => ∃ s ent hd G', e = .returned (s.val (fun _ => hd)) ∧ ent.lt 0 ∧ Ext w0 w' G0 G' ∧ ent.holds w' (fun _ => hd) hd ∧
      (∀ k, ent.at_ hd = some k → w0.heap.size ≤ k ∧ k < w'.heap.size ∧ ∀ x : Addr, x.block = k → G' x = none) ∧ Ψ G' ent s) .ret ⟨n, w0, G0, fun _ => false⟩ env L G := by
  intro hs a w S
  rw [nth_eq] at hr
  exact ⟨S.defers, _, (resS_run hT S hrv h).1, s, ent, hs r, G, by rw [shS_val], hl, S.toExt rfl, ent_any hl (S.holds r ent hr).1, fun k hk => by
    obtain ⟨h1, h2⟩ := S.own r ent k hr hk
    rcases h1 with h1 | h1
    · exact ⟨h1, h2⟩
    · simp at h1, hΨ⟩
end

/-! ### structs compared -/
def memN : Nat → List Nat → Bool
  | _, [] => false
  | t, u :: l => match Nat.beq t u with
    | true => true
    | false => memN t l
theorem memN_mem {t : Nat} {l : List Nat} (h : memN t l = true) : t ∈ l := by
  induction l with
  | nil => simp [memN] at h
  | cons u l ih =>
    simp only [memN] at h
    split at h
    · rename_i hb; rw [Nat.eq_of_beq_eq_true hb]; exact List.mem_cons_self
    · exact List.mem_cons_of_mem _ (ih h)
def eqL (T : Tab) (ts : List Nat) : Nat → List (Nat × Nat × TypeId) → List Value → List Value → Option Bool
  | 0, _, _, _ => none
  | _ + 1, [], _, _ => some true
  | q + 1, (off, size, ft) :: fs, xs, ys => match ti T ft with
    | some ⟨_, _, _, .int k⟩ => match nth xs off, nth ys off with
      | some (.int k1 a), some (.int k2 b) => match sameK k1 k2, eqL T ts q fs xs ys with
        | true, some r => some ((a == b) && r)
        | _, _ => none
      | _, _ => none
    | some ⟨_, _, _, .bool⟩ => match nth xs off, nth ys off with
      | some (.bool a), some (.bool b) => match eqL T ts q fs xs ys with
        | some r => some ((a == b) && r)
        | none => none
      | _, _ => none
    | some ⟨sz, _, _, .struct gs⟩ => match dropN off xs, dropN off ys with
      | some xs', some ys' => match takeN sz xs', takeN sz ys' with
        | some xs2, some ys2 => match memN ft ts, eqL T ts q gs xs2 ys2, eqL T ts q fs xs ys with
          | true, some r1, some r2 => some (r1 && r2)
          | _, _, _ => none
        | _, _ => none
      | _, _ => none
    | _ => none

theorem run_part_one {P : Program} {T : Tab} (hT : TOk P T) {t : Nat} {x : TI} (h : ti T t = some x) (ha : x.kind.isAgg = false) (hne : x.kind ≠ .other) {cs : List Value} {off : Nat} {v : Value} (hv : nth cs off = some v) (w : World) : (part t cs.toArray off).run P w = .ok v w := by
  rw [nth_eq] at hv
  have hv' : cs.toArray[off]? = some v := by simpa using hv
  unfold part
  rw [Sem.run_bind, run_agg hT h hne, Result.andThen_ok, ha]
  simp [hv]
theorem run_part_agg {P : Program} {T : Tab} (hT : TOk P T) {t : Nat} {x : TI} (h : ti T t = some x) (ha : x.kind.isAgg = true) {cs : List Value} {off : Nat} {xs r : List Value} (h1 : dropN off cs = some xs) (h2 : takeN x.size xs = some r) (w : World) : (part t cs.toArray off).run P w = .ok (.agg r.toArray) w := by
  have hne : x.kind ≠ .other := fun e => by rw [e] at ha; simp [TK.isAgg] at ha
  have e1 := dropN_eq h1
  obtain ⟨e2, e3⟩ := takeN_eq h2
  unfold part
  rw [Sem.run_bind, run_agg hT h hne, Result.andThen_ok, ha]
  simp only [if_true, Sem.run_bind, run_size hT h, Result.andThen_ok, Sem.run_pure]
  have : cs.toArray.extract off (off + x.size) = r.toArray := by
    refine Array.toList_inj.1 ?_
    rw [e2, e1, Array.toList_extract, List.extract_eq_take_drop, Nat.add_sub_cancel_left]
  rw [this]

theorem eqF_cons {P : Program} {d : Nat} {xs ys : Array Value} {f : Field} {fs : List Field} {a b : Value} {r s : Bool} {w : World} (hn : f.name ≠ "_") (ha : (part f.type xs f.offset).run P w = .ok a w) (hb : (part f.type ys f.offset).run P w = .ok b w) (he : (Op.equalIn d f.type a b).run P w = .ok r w) (hr : (Op.eqFields d xs ys fs).run P w = .ok s w) : (Op.eqFields d xs ys (f :: fs)).run P w = .ok (r && s) w := by
  rw [Op.eqFields]
  simp only [if_pos hn, Sem.run_bind, ha, hb, he, Result.andThen_ok]
  cases r
  · simp
  · simpa using hr

theorem eqL_run {P : Program} {T : Tab} {ts : List Nat} (hT : TOk P T) (hst : ∀ t ∈ ts, P.stoodInHeld t = false) : ∀ (q : Nat) (fs : List (Nat × Nat × TypeId)) (xs ys : List Value) (r : Bool), eqL T ts q fs xs ys = some r →
    ∀ Fs : List Field, fs = Fs.map (fun f => (f.offset, P.cellsOf f.type, f.type)) → (∀ f ∈ Fs, f.name ≠ "_") → ∀ d, q ≤ d → ∀ w, (Op.eqFields d xs.toArray ys.toArray Fs).run P w = .ok r w := by
  intro q
  induction q with
  | zero => intro fs xs ys r h; simp [eqL] at h
  | succ q ih =>
    intro fs xs ys r h Fs hF hn d hd w
    obtain ⟨d, rfl⟩ : ∃ d', d = d' + 1 := ⟨d - 1, by omega⟩
    cases Fs with
    | nil =>
      subst hF
      simp only [List.map_nil, eqL, Option.some.injEq] at h
      subst h
      simp [Op.eqFields]
    | cons f Fs =>
      subst hF
      simp only [List.map_cons, eqL] at h
      have hn1 := hn f List.mem_cons_self
      have hn2 : ∀ g ∈ Fs, g.name ≠ "_" := fun g hg => hn g (List.mem_cons_of_mem _ hg)
      split at h
      · rename_i s1 b1 z1 k hti
        split at h
        · rename_i k1 a k2 b ha hb
          split at h
          · rename_i r2 hk9 hr2
            obtain rfl := sameK_eq hk9
            obtain rfl := Option.some.inj h
            obtain ⟨i', u', _, _, hu', _, _, _, _, hk'⟩ := ti_info hT hti
            obtain rfl := und_int hk'
            exact eqF_cons hn1 (run_part_one hT hti rfl (by simp) ha w) (run_part_one hT hti rfl (by simp) hb w) (run_equalIn_int w d f.type k1 k a b hu') (ih _ _ _ _ hr2 Fs rfl hn2 (d + 1) (by omega) w)
          · simp at h
        · simp at h
      · rename_i s1 b1 z1 hti
        split at h
        · rename_i a b ha hb
          split at h
          · rename_i r2 hr2
            obtain rfl := Option.some.inj h
            obtain ⟨i', u', _, _, hu', _, _, _, _, hk'⟩ := ti_info hT hti
            obtain rfl := und_bool hk'
            exact eqF_cons hn1 (run_part_one hT hti rfl (by simp) ha w) (run_part_one hT hti rfl (by simp) hb w) (run_equalIn_bool w d f.type a b hu') (ih _ _ _ _ hr2 Fs rfl hn2 (d + 1) (by omega) w)
          · simp at h
        · simp at h
      · rename_i s1 b1 z1 gs hti
        split at h
        · rename_i xs' ys' hx hy
          split at h
          · rename_i xs2 ys2 hx2 hy2
            split at h
            · rename_i r1 r2 hm hr1 hr2
              obtain rfl := Option.some.inj h
              obtain ⟨i', u', _, _, hu', _, _, _, _, hk'⟩ := ti_info hT hti
              obtain ⟨Gs, rfl, hgs, hgn⟩ := und_struct hk'
              have hfo : P.fieldsOf f.type = Gs := by simp [Program.fieldsOf, hu']
              refine eqF_cons hn1 (run_part_agg hT hti rfl hx hx2 w) (run_part_agg hT hti rfl hy hy2 w) (r := r1) ?_ (ih _ _ _ _ hr2 Fs rfl hn2 (d + 1) (by omega) w)
              rw [run_equalIn_struct (P := P) w d f.type _ _ (by rw [hfo]; exact hu') (hst _ (memN_mem hm)), hfo]
              cases q with
              | zero => simp [eqL] at hr1
              | succ q => exact ih _ _ _ _ hr1 Gs.toList hgs (fun g hg => (hgn g hg).1) d (by omega) w
            · simp at h
          · simp at h
        · simp at h
      · simp at h
end Go.Proofs.Ytdiclbejalelfaa
