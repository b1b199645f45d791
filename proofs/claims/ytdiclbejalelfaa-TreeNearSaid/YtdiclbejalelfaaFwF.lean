/- The rules of the walk. No condition. -/
import Derived.Test.YtdiclbejalelfaaFwE
import Derived.Deep.LoopGhost
set_option linter.unusedVariables false
set_option linter.unusedSimpArgs false
namespace Go.Proofs.Ytdiclbejalelfaa
open Go.RowKit

section
variable {P : Program} {T : Tab} {lops l l' : List Oper} {Q : Exit → Act → World → Prop} {C : Ctx} {env env' : Env} {gv gv' : GV} {L L' : List Ent} {G G' : Ghost} {o : Oper}

theorem EL.step (hT : TOk P T) (h : step T C.n lops o env gv L = some (env', gv', L')) (k : EL P lops Q C l env' gv' L' G) : EL P lops Q C (o :: l) env gv L G := by
  intro hs a w S g
  unfold Proofs.Ytdiclbejalelfaa.step at h
  unfold wpList
  split at h
  · rename_i hg
    rw [if_pos (by simp [Region.wanted, hg])]
    exact .inl (wpList_exec hT S g h k)
  · rename_i j want hg
    split at h
    · simp at h
    · rename_i sj hsj
      have hy := yielded_of (a := a) hsj
      have hwant : ∀ b, a.tmps[sj]? = some (.bool b) → (Region.wanted o (yielded lops.toArray a.tmps) = true ↔ b = want) := fun b hb => by
        rw [hb] at hy
        simp [Region.wanted, hg, hy]
      split at h
      · rename_i s hf
        split at h
        · have hv : a.tmps[sj]? = some (.bool true) := (S.slot sj _ hf).1
          split at h
          · rw [if_pos ((hwant true hv).2 rfl)]; exact .inl (wpList_exec hT S g h k)
          · rw [if_neg (fun e => by simpa using (hwant true hv).1 e)]; exact wpList_pass S g h k
        · have hv : a.tmps[sj]? = some (.bool false) := (S.slot sj _ hf).1
          split at h
          · rw [if_neg (fun e => by simpa using (hwant false hv).1 e)]; exact wpList_pass S g h k
          · rw [if_pos ((hwant false hv).2 rfl)]; exact .inl (wpList_exec hT S g h k)
        · split at h
          · rename_i b
            have hv : a.tmps[sj]? = some (.bool b) := (S.slot sj _ hf).1
            obtain ⟨h1, h2⟩ := wpList_gexec hT S g h k
            by_cases hb : b = want
            · rw [if_pos ((hwant b hv).2 hb)]
              exact .inl (h1 (fun x hx => by rw [List.mem_singleton.1 hx, ← hb]; exact hv))
            · rw [if_neg (fun e => hb ((hwant b hv).1 e))]
              exact h2 (fun hon => hb (by have := hon _ List.mem_cons_self; rw [hv] at this; simpa using this))
          · rename_i vs
            have hv : a.tmps[sj]? = some (.tuple vs) := (S.slot sj _ hf).1
            rw [if_neg (fun e => by rw [hv] at hy; simp [Region.wanted, hg, hy] at e)]
            exact wpList_pass S g h k
          · simp at h
        · simp at h
      · rename_i hf
        split at h
        · rename_i s gs hgf
          obtain ⟨h1, h2⟩ := wpList_gexec hT S g h k
          obtain ⟨h3, h4⟩ := g.on sj s gs hgf
          by_cases hon : Gs.on gs a
          · by_cases hb : a.tmps[sj]? = some (.bool want)
            · rw [if_pos ((hwant want hb).2 rfl)]
              exact .inl (h1 (on_cons hb hon))
            · rw [if_neg]
              · exact h2 (fun ho => hb (ho _ List.mem_cons_self))
              · intro e
                simp only [Region.wanted, hg, hy, beq_iff_eq] at e
                split at e
                · rename_i b hb'
                  simp only [Option.some.injEq] at e
                  subst e
                  exact hb hb'
                · simp at e
          · have hu := h4 hon
            rw [if_neg]
            · exact h2 (fun ho => by have := ho _ List.mem_cons_self; rw [hu] at this; simp [undef] at this)
            · intro e
              simp [Region.wanted, hg, hy, hu, undef] at e
        · simp at h

theorem EL.run (hT : TOk P T) (k : Nat) (h : run T C.n lops k l env gv L = some (l', env', gv', L')) (next : EL P lops Q C l' env' gv' L' G) : EL P lops Q C l env gv L G := by
  induction k generalizing l env gv L with
  | zero =>
    simp only [Proofs.Ytdiclbejalelfaa.run] at h
    split at h
    · rename_i e1 g1 L1 h1 h2 h3
      simp only [Option.some.injEq, Prod.mk.injEq] at h
      obtain ⟨rfl, rfl, rfl, rfl⟩ := h
      rw [fE_eq h1, fG_eq h2, fR_eq h3] at next
      exact next
    · simp at h
  | succ k ih =>
    cases l with
    | nil => simp [Proofs.Ytdiclbejalelfaa.run] at h
    | cons o l =>
      simp only [Proofs.Ytdiclbejalelfaa.run] at h
      split at h
      · rename_i e1 g1 L1 hs
        exact EL.step hT hs (ih h)
      · simp at h

theorem EL.nil (h : EX Q .normal C env L G) : EL P lops Q C [] env gv L G := fun hs a w S _ => h hs a w S

/-- A region in the text's order. -/
theorem E.region {id : Nat} (h : EL P lops Q C lops env gnil L G) : E P (.region id lops.toArray false) Q C env L G :=
  fun hs a w S => wp_region_lit (h hs a w S (GOk.nil _ _ _ _))
theorem E.seq {x y : Code} (h : E P x (Exit.then (y.wp P Q) Q) C env L G) : E P (.seq x y) Q C env L G := fun hs a w S => wp_seq (h hs a w S)
theorem EX.seq {y : Code} {Q' : Exit → Act → World → Prop} (h : E P y Q C env L G) : EX (Exit.then (y.wp P Q) Q') .normal C env L G := fun hs a w S => h hs a w S
theorem E.block {id : Nat} {c : Code} (h : E P c (Exit.inBlock id Q) C env L G) : E P (.block id c) Q C env L G := fun hs a w S => wp_block (h hs a w S)
theorem EX.block {id : Nat} (h : EX Q .normal C env L G) : EX (Exit.inBlock id Q) .normal C env L G := fun hs a w S => h hs a w S
theorem EX.hit {id : Nat} (h : EX Q .normal C env L G) : EX (Exit.inBlock id Q) (.exit id) C env L G := fun hs a w S => by
  show (if id = id then Q .normal a w else _)
  rw [if_pos rfl]; exact h hs a w S
theorem EX.miss {id id' : Nat} (hne : Nat.beq id' id = false) (h : EX Q (.exit id') C env L G) : EX (Exit.inBlock id Q) (.exit id') C env L G := fun hs a w S => by
  show (if id' = id then _ else Q (.exit id') a w)
  rw [if_neg (fun e => by subst e; simp at hne)]; exact h hs a w S
theorem EX.out {id : Nat} {K : Act → World → Prop} (h : EX Q (.exit id) C env L G) : EX (Exit.then K Q) (.exit id) C env L G := fun hs a w S => h hs a w S
theorem EX.retT {K : Act → World → Prop} (h : EX Q .ret C env L G) : EX (Exit.then K Q) .ret C env L G := fun hs a w S => h hs a w S
theorem EX.retB {id : Nat} (h : EX Q .ret C env L G) : EX (Exit.inBlock id Q) .ret C env L G := fun hs a w S => h hs a w S
theorem E.exit {id : Nat} (h : EX Q (.exit id) C env L G) : E P (.exit id) Q C env L G := fun hs a w S => wp_exit (h hs a w S)
theorem E.skip (h : EX Q .normal C env L G) : E P .skip Q C env L G := fun hs a w S => wp_skip (h hs a w S)
theorem E.ret (h : EX Q .ret C env L G) : E P .ret Q C env L G := fun hs a w S => wp_ret (h hs a w S)

theorem S_eval {hs : Nat → Hd} {a : Act} {w : World} (S : Sim C env L G hs a w) {x : Operand} {s : SV} (h : ev env gnil [] x = some s) : a.eval x = s.val hs :=
  (ev_val S (GOk.nil C L hs a) (fun _ h => absurd h (by simp)) h).1
theorem E.condT {c : Operand} {x y : Code} (h : ev env gnil [] c = some .tt) (k : E P x Q C env L G) : E P (.cond c x y) Q C env L G := fun hs a w S => wp_cond_true (S_eval S h) (k hs a w S)
theorem E.condF {c : Operand} {x y : Code} (h : ev env gnil [] c = some .ff) (k : E P y Q C env L G) : E P (.cond c x y) Q C env L G := fun hs a w S => wp_cond_false (S_eval S h) (k hs a w S)
theorem E.condB {c : Operand} {x y : Code} {b : Bool} (h : ev env gnil [] c = some (.v (.bool b))) (k1 : b = true → E P x Q C env L G) (k2 : b = false → E P y Q C env L G) : E P (.cond c x y) Q C env L G :=
  fun hs a w S => wp_cond_split (S_eval S h) (fun e => k1 e hs a w S) (fun e => k2 e hs a w S)
/-- A test, and what the pure function says of it. -/
theorem E.cond {c : Operand} {x y : Code} {b : Bool} {α : Type} {A B : Option α} {r : α} (h : ev env gnil [] c = some (.v (.bool b))) (H : (bif b then A else B) = some r) (k1 : b = true → A = some r → E P x Q C env L G) (k2 : b = false → B = some r → E P y Q C env L G) : E P (.cond c x y) Q C env L G :=
  E.condB h (fun e => k1 e (by rw [e] at H; exact H)) (fun e => k2 e (by rw [e] at H; exact H))

def setAl (x : SV) (s : Nat) : List (Nat × Nat) → Env → Env
  | [], env => env
  | (d, q) :: l, env => match Nat.beq q s with
    | true => (d, some x) :: setAl x s l env
    | false => setAl x s l env
theorem setAl_find {hs : Nat → Hd} {a : Act} {w : World} (S : Sim C env L G hs a w) {x : SV} (hx : x.lt L.length) {s : Nat} : ∀ l : List (Nat × Nat), (∀ p, p ∈ l → p.2 = s → a.tmps[p.1]? = some (x.val hs)) → ∀ t u, find (setAl x s l env) t = some u → a.tmps[t]? = some (u.val hs) ∧ u.lt L.length := by
  intro l
  induction l with
  | nil => intro _ t u h; exact S.slot t u h
  | cons p l ih =>
    intro hal t u h
    simp only [setAl] at h
    split at h
    · rename_i hb
      simp only [find] at h
      split at h
      · rename_i hb2
        obtain rfl := Option.some.inj h
        rw [← Nat.eq_of_beq_eq_true hb2]
        exact ⟨hal p List.mem_cons_self (Nat.eq_of_beq_eq_true hb), hx⟩
      · exact ih (fun q hq => hal q (List.mem_cons_of_mem _ hq)) t u h
    · exact ih (fun q hq => hal q (List.mem_cons_of_mem _ hq)) t u h

/-- A bool in a slot that a guard asks for is parted. -/
theorem EL.split {s : Nat} {b : Bool} {α : Type} {A B : Option α} {r : α} (h : find env s = some (.v (.bool b))) (H : (bif b then A else B) = some r) (k1 : b = true → A = some r → EL P lops Q C l ((s, some .tt) :: setAl .tt s gv.al env) gv L G) (k2 : b = false → B = some r → EL P lops Q C l ((s, some .ff) :: setAl .ff s gv.al env) gv L G) : EL P lops Q C l env gv L G := by
  intro hs a w S g
  have key : ∀ sv : SV, sv.val hs = .bool b → sv.lt L.length → Sim C ((s, some sv) :: setAl sv s gv.al env) L G hs a w := fun sv hv hl => by
    refine ⟨S.defers, S.size, fun t s' ht => ?_, S.le, S.ok, S.new, S.below, S.holds, S.own, S.apart⟩
    have e : a.tmps[s]? = some (sv.val hs) := by rw [(S.slot s _ h).1, hv]; rfl
    simp only [find] at ht
    split at ht
    · rename_i hb
      obtain rfl := Nat.eq_of_beq_eq_true hb
      obtain rfl := Option.some.inj ht
      exact ⟨e, hl⟩
    · exact setAl_find S hl gv.al (fun p hp hps => by rw [g.al p hp, hps, e]) t s' ht
  cases hb : b with
  | true => rw [hb] at H; exact k1 hb H hs a w (key .tt (by rw [hb]; rfl) trivial) g
  | false => rw [hb] at H; exact k2 hb H hs a w (key .ff (by rw [hb]; rfl) trivial) g

/-- What is asked of the slots at the head of a loop, or where ways meet. -/
def Sub : Env → Env → Prop
  | [], _ => True
  | (d, s) :: l, e => find e d = s ∧ Sub l e
theorem Sub.find {e' e : Env} (h : Sub e' e) : ∀ t s, Proofs.Ytdiclbejalelfaa.find e' t = some s → Proofs.Ytdiclbejalelfaa.find e t = some s := by
  induction e' with
  | nil => intro t s h; simp [Proofs.Ytdiclbejalelfaa.find] at h
  | cons x l ih =>
    obtain ⟨d, sv⟩ := x
    intro t s ht
    simp only [Proofs.Ytdiclbejalelfaa.find] at ht
    split at ht
    · rename_i hb
      obtain rfl := Nat.eq_of_beq_eq_true hb
      rw [h.1, ht]
    · exact ih h.2 t s ht
theorem E.sub {c : Code} (h : Sub env' env) (k : E P c Q C env' L G) : E P c Q C env L G := fun hs a w S => k hs a w (S.weaken h.find)
theorem EX.sub {e : Exit} (h : Sub env' env) (k : EX Q e C env' L G) : EX Q e C env L G := fun hs a w S => k hs a w (S.weaken h.find)

/-- A loop: a relation on numbers, slots, memory and knowledge, that each round hands on at a smaller number. -/
theorem E.loop {c : Code} (I : Nat → Env → List Ent → Ghost → Prop) (n0 : Nat) (h0 : I n0 env L G)
    (round : ∀ n env L G, I n env L G → ∀ K : Act → World → Prop, (∀ n' env' L' G', n' < n → I n' env' L' G' → EX (fun _ => K) .normal C env' L' G') → E P c (Exit.then K Q) C env L G) : E P (.loop c) Q C env L G := by
  intro hs a w S
  refine wp_loop_ghost (fun n a w => ∃ env L G hs, I n env L G ∧ Sim C env L G hs a w) n0 ⟨env, L, G, hs, h0, S⟩ ?_
  rintro n a w ⟨env, L, G, hs, hI, S⟩
  exact round n env L G hI _ (fun n' env' L' G' hlt hI' hs a w S => ⟨n', hlt, env', L', G', hs, hI', S⟩) hs a w S
theorem EX.again {K : Act → World → Prop} {Q' : Exit → Act → World → Prop} (hsub : Sub env' env) (h : EX (fun _ => K) .normal C env' L G) : EX (Exit.then K Q') .normal C env L G :=
  fun hs a w S => h hs a w (S.weaken hsub.find)

/-! ### calls -/
structure Ext (w w' : World) (G G' : Ghost) : Prop where
  below : Below w.heap.size w w'
  le : GLe G G'
  ok : ∀ x v, G' x = some v → w'.cell? x = some v
  new : ∀ x v, G' x = some v → G x = some v ∨ w.heap.size ≤ x.block
def Holds (G : Ghost) (w : World) : Prop := ∀ x v, G x = some v → w.cell? x = some v
/-- The call returns, and of what it returns and what is known then Φ says more; no elder memory has turned. -/
def Ret (P : Program) (f : FuncId) (args : List Value) (w : World) (G : Ghost) (Φ : Ghost → Value → Prop) : Prop :=
  Calls P f args.toArray w fun e w' => ∃ v G', e = .returned v ∧ Ext w w' G G' ∧ Φ G' v
theorem Ret.mono {f : FuncId} {args : List Value} {w : World} {Φ Ψ : Ghost → Value → Prop} (h : Ret P f args w G Φ) (k : ∀ G' v, GLe G G' → Φ G' v → Ψ G' v) : Ret P f args w G Ψ :=
  Calls.mono h fun e w' ⟨v, G', h1, h2, h3⟩ => ⟨v, G', h1, h2, k G' v h2.le h3⟩

def Enters (P : Program) (f : FuncId) : Prop := ∃ fn, P.funcs[f]? = some fn ∧ (fn.name == "runtime.NumGoroutine") = false ∧ fn.body.isNone = false
theorem Enters.run {f : FuncId} (h : Enters P f) (args : Array Value) (w : World) : (callFunc f args).run P w = .ok (.enter f args) w := by
  obtain ⟨fn, h1, h2, h3⟩ := h
  unfold callFunc
  rw [Sem.run_bind, run_program]
  simp only [Result.andThen_ok, h1]
  rw [if_neg (by rw [h2]; simp), if_neg (by rw [h3]; simp)]
  rfl

/-- Is an operation carried out? -/
def goes (lops : List Oper) (env : Env) : Option (Nat × Bool) → Bool
  | none => true
  | some (j, want) => match dstOf lops j with
    | none => false
    | some sj => match find env sj, want with
      | some .tt, true => true
      | some .ff, false => true
      | _, _ => false
theorem goes_wanted {hs : Nat → Hd} {a : Act} {w : World} (S : Sim C env L G hs a w) (h : goes lops env o.guard = true) : Region.wanted o (yielded lops.toArray a.tmps) = true := by
  unfold goes at h
  split at h
  · rename_i hg; simp [Region.wanted, hg]
  · rename_i j want hg
    split at h
    · simp at h
    · rename_i sj hsj
      have hy := yielded_of (a := a) hsj
      split at h
      · rename_i hf; have := (S.slot sj _ hf).1; rw [this] at hy; simp [Region.wanted, hg, hy, SV.val, SV.cval]
      · rename_i hf; have := (S.slot sj _ hf).1; rw [this] at hy; simp [Region.wanted, hg, hy, SV.val, SV.cval]
      · simp at h

def okDst (n : Nat) (gv : GV) : Option Nat → Option Nat
  | some d => match Nat.blt d n, gfree gv d with
    | true, true => some d
    | _, _ => none
  | none => none
theorem okDst_eq {n : Nat} {x : Option Nat} {d : Nat} (h : okDst n gv x = some d) : x = some d ∧ d < n ∧ gfree gv d = true := by
  unfold okDst at h
  split at h
  · split at h
    · rename_i h1 h2
      obtain rfl := Option.some.inj h
      exact ⟨rfl, by simpa using h1, h2⟩
    · simp at h
  · simp at h

/-- An operation of which it is told by hand what it comes to. -/
theorem EL.op {d : Nat} (hg : goes lops env o.guard = true) (hd : okDst C.n gv o.dst = some d) {Φ : Ghost → List Ent → SV → Prop}
    (h : ∀ hs a w, Sim C env L G hs a w → GOk C gv L hs a → ∀ K : Act → World → Prop, (∀ hs' a' w' s L' G', Sim C env L' G' hs' a' w' → a'.tmps = a.tmps → GOk C gv L' hs' a' → s.lt L'.length → Φ G' L' s → K (a'.put o.dst (s.val hs')) w') → o.wp P a w K Q)
    (k : ∀ s L' G', Φ G' L' s → EL P lops Q C l ((d, some s) :: env) gv L' G') : EL P lops Q C (o :: l) env gv L G := by
  intro hs a w S g
  obtain ⟨h1, h2, h3⟩ := okDst_eq hd
  unfold wpList
  rw [if_pos (goes_wanted S hg)]
  refine .inl (h hs a w S g _ (fun hs' a' w' s L' G' S' hta g' hlt hΦ => ?_))
  rw [h1]
  exact k s L' G' hΦ hs' _ w' (S'.put h2 hlt) (g'.put h3 _)

theorem plainAll_ev {hs : Nat → Hd} {a : Act} {w : World} (S : Sim C env L G hs a w) (g : GOk C gv L hs a) {xs : List Operand} {vs : List Value} (h : plainAll (ev env gv []) xs = some vs) : xs.map a.eval = vs :=
  plainAll_val (fun x s hx => ev_val S g (fun _ h => absurd h (by simp)) hx) h

theorem Sim.ext {hs : Nat → Hd} {a : Act} {w w' : World} (S : Sim C env L G hs a w) (h : Ext w w' G G') : Sim C env L G' hs a w' := S.know h.below h.le h.ok h.new

/-- A call of a named function, by its contract. -/
theorem EL.call {d f : Nat} {xs : Array Operand} {tys : Array TypeId} {vs : List Value} {Φ : Ghost → Value → Prop} (hg : goes lops env o.guard = true) (hd : okDst C.n gv o.dst = some d)
    (ho : o.op = .call ⟨.value (.func f), xs, tys⟩) (hv : plainAll (ev env gv []) xs.toList = some vs) (hen : Enters P f) (spec : ∀ w, Holds G w → Ret P f vs w G Φ)
    (k : ∀ v G', GLe G G' → Φ G' v → EL P lops Q C l ((d, some (.v v)) :: env) gv L G') : EL P lops Q C (o :: l) env gv L G := by
  intro hs a w S g
  obtain ⟨h1, h2, h3⟩ := okDst_eq hd
  unfold wpList
  rw [if_pos (goes_wanted S hg)]
  have hargs : xs.map a.eval = vs.toArray := by rw [← plainAll_ev S g hv, ← Array.toList_map]
  refine .inl ?_
  have hrun : (execOp a.eval o).run P w = .ok (.enter f vs.toArray) w := by
    simp only [execOp, ho, resolve, hargs, Act.eval, Deferred.ofValue, invoke, Sem.run_bind, Sem.run_pure, Result.andThen_ok, Array.empty_append, Array.append_empty]
    rw [hen.run]
  unfold Oper.wp
  rw [hrun, Oper.upon_enter]
  refine Calls.mono (spec w S.ok) ?_
  rintro e w' ⟨v, G', rfl, hext, hΦ⟩
  show wpList P lops.toArray Q l (a.put o.dst v) w'
  rw [h1]
  exact k v G' hext.le hΦ hs _ w' ((S.ext hext).put h2 (s := .v v) trivial) (g.put h3 _)

/-- The call begins. -/
def env0 : Nat → List Value → Env
  | _, [] => []
  | i, v :: l => (i, some (lit' v)) :: env0 (i + 1) l
where lit' (v : Value) : SV := .v v
theorem find_env0 (vs : List Value) : ∀ i t s, find (env0 i vs) t = some s → ∃ v, s = .v v ∧ i ≤ t ∧ vs[t - i]? = some v := by
  induction vs with
  | nil => intro i t s h; simp [env0, find] at h
  | cons v vs ih =>
    intro i t s h
    simp only [env0, find] at h
    split at h
    · rename_i hb
      obtain rfl := Nat.eq_of_beq_eq_true hb
      obtain rfl := Option.some.inj h
      exact ⟨v, rfl, Nat.le_refl _, by simp⟩
    · obtain ⟨u, h1, h2, h3⟩ := ih _ _ _ h
      refine ⟨u, h1, by omega, ?_⟩
      rw [show t - i = (t - (i + 1)) + 1 by omega]
      simpa using h3

theorem start {f : FuncId} {fn : Func} {c : Code} {n : Nat} {vs : List Value} {w : World} {Φ : Ghost → Value → Prop} (hf : P.funcs[f]? = some fn) (hb : fn.body = some c) (hn : fn.ntmps = n) (hl : Nat.ble vs.length n = true) (hG : Holds G w)
    (k : E P c (bodyPost P fn fun e w' => ∃ v G', e = .returned v ∧ Ext w w' G G' ∧ Φ G' v) ⟨n, w, G, fun _ => false⟩ (env0 0 vs) [] G) : Ret P f vs w G Φ := by
  refine calls_of_wp hf hb (k (fun _ => ⟨0, undef⟩) _ w ?_)
  have hl' : vs.length ≤ n := by simpa using hl
  refine ⟨rfl, by simp [hn]; omega, fun t s ht => ?_, GLe.refl _, hG, fun x v hx => .inl hx, BelowX.refl _ _, fun r e hr => by simp at hr, fun r e k hr => by simp at hr, fun r r' e e' k hr => by simp at hr⟩
  obtain ⟨v, rfl, _, hv⟩ := find_env0 vs 0 t s ht
  have hlt : t < vs.length := by
    have := (List.getElem?_eq_some_iff.1 hv).1; omega
  refine ⟨?_, trivial⟩
  rw [Array.getElem?_append_left (by simpa using hlt)]
  simpa [SV.val, SV.cval] using hv

/-! ### what is returned -/
def resV (T : Tab) (env : Env) (L : List Ent) : List ResultVar → Option (List Value)
  | [] => some []
  | .tmp t :: rs => match ev env gnil [] (.tmp t) with
    | some s => match s.plain, resV T env L rs with
      | some v, some vs => some (v :: vs)
      | _, _ => none
    | none => none
  | .cell t ty :: rs => match valOp T (ev env gnil []) L (.load ty (.tmp t)) with
    | some (.v v) => match resV T env L rs with
      | some vs => some (v :: vs)
      | none => none
    | _ => none
def tup : List Value → Value
  | [v] => v
  | vs => .tuple vs.toArray

theorem resV_run (hT : TOk P T) {hs : Nat → Hd} {a : Act} {w : World} (S : Sim C env L G hs a w) : ∀ (rs : List ResultVar) (vs : List Value), resV T env L rs = some vs →
    (rs.mapM fun | .tmp t => pure (a.tmps.getD t undef) | .cell x t => do loadVar t (← asAddr (a.tmps.getD x undef)) : Sem (List Value)).run P w = .ok vs w := by
  intro rs
  induction rs with
  | nil => intro vs h; simp [resV] at h; subst h; rfl
  | cons r rs ih =>
    intro vs h
    cases r with
    | tmp t =>
      simp only [resV] at h
      split at h
      · rename_i s hs'
        split at h
        · rename_i v vs' hv hr
          obtain rfl := Option.some.inj h
          rw [List.mapM_cons, Sem.run_bind]
          have := S_eval S hs'
          simp only [Act.eval] at this
          simp only [this, SV.plain_val hv, Sem.run_pure, Result.andThen_ok, Sem.run_bind]
          rw [ih _ hr]; rfl
        · simp at h
      · simp at h
    | cell t ty =>
      simp only [resV] at h
      split at h
      · rename_i v hv
        split at h
        · rename_i vs' hr
          obtain rfl := Option.some.inj h
          rw [List.mapM_cons, Sem.run_bind]
          have hrun := (valOp_run (o := ⟨none, .load ty (.tmp t), 0, "", #[], none⟩) hT (fun x s hx => ev_val S (GOk.nil C L hs a) (fun _ h => absurd h (by simp)) hx) S.holds hv).1
          simp only [execOp, SV.val, Act.eval] at hrun
          have hload : (do loadVar ty (← asAddr (a.tmps.getD t undef)) : Sem Value).run P w = .ok v w := by
            rw [Sem.run_bind] at hrun ⊢
            unfold Instr.loadAt at hrun
            rw [Sem.run_bind] at hrun
            generalize a.tmps.getD t undef = q at hrun ⊢
            unfold Instr.sureAddr at hrun
            split at hrun
            · simp only [asAddr, Sem.run_pure, Result.andThen_ok] at hrun ⊢
              cases hx : (loadVar ty _).run P w with
              | ok x w1 =>
                rw [hx] at hrun
                simp only [Result.andThen_ok, Sem.run_pure, Result.ok.injEq, Next.value.injEq] at hrun
                rw [hrun.1, hrun.2]; rfl
              | halt x w1 => rw [hx] at hrun; simp at hrun
            · simp at hrun
          simp only [hload, Result.andThen_ok, Sem.run_bind]
          rw [ih _ hr]; rfl
        · simp at h
      · simp at h

theorem results_run (hT : TOk P T) {hs : Nat → Hd} {a : Act} {w : World} (S : Sim C env L G hs a w) {fn : Func} {vs : List Value} (h : resV T env L fn.results.toList = some vs) : (results fn a.tmps).run P w = .ok (tup vs) w := by
  unfold results
  rw [Sem.run_bind, Array.mapM_eq_mapM_toList, Sem.run_map]
  refine Eq.trans (congrArg (fun r => Result.andThen (Result.andThen r (fun a w' => Result.ok a.toArray w')) (fun a w' => Sem.run P (pure (if h : a.size = 1 then a[0] else Value.tuple a)) w')) (resV_run hT S _ _ h)) ?_
  simp only [Result.andThen_ok, Sem.run_pure]
  congr 1
  cases vs with
  | nil => rfl
  | cons v vs => cases vs with
    | nil => rfl
    | cons u vs => rfl

theorem Sim.toExt {hs : Nat → Hd} {a : Act} {w : World} (S : Sim C env L G hs a w) (hC : C.lent = fun _ => false) : Ext C.w0 w C.G0 G :=
  ⟨(hC ▸ S.below).below, S.le, S.ok, fun x v hx => by
    rcases S.new x v hx with h | h | h
    · exact .inl h
    · exact .inr h
    · rw [hC] at h; simp at h⟩
theorem EX.ret {fn : Func} {vs : List Value} {Φ : Ghost → Value → Prop} (hT : TOk P T) (h : resV T env L fn.results.toList = some vs) (hΦ : Φ G (tup vs)) {n : Nat} {w0 : World} {G0 : Ghost} :
    EX (bodyPost P fn fun e w' => ∃ v G', e = .returned v ∧ Ext w0 w' G0 G' ∧ Φ G' v) .ret ⟨n, w0, G0, fun _ => false⟩ env L G :=
  fun hs a w S => ⟨S.defers, _, results_run hT S h, _, G, rfl, S.toExt rfl, hΦ⟩
theorem EX.fall {fn : Func} {vs : List Value} {Φ : Ghost → Value → Prop} (hT : TOk P T) (h : resV T env L fn.results.toList = some vs) (hΦ : Φ G (tup vs)) {n : Nat} {w0 : World} {G0 : Ghost} :
    EX (bodyPost P fn fun e w' => ∃ v G', e = .returned v ∧ Ext w0 w' G0 G' ∧ Φ G' v) .normal ⟨n, w0, G0, fun _ => false⟩ env L G :=
  fun hs a w S => ⟨S.defers, _, results_run hT S h, _, G, rfl, S.toExt rfl, hΦ⟩
end
end Go.Proofs.Ytdiclbejalelfaa
