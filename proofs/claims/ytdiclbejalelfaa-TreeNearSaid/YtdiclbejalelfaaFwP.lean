/- Calls that are walked into with what the caller owns; methods behind an interface; an element's part stored. No condition. -/
import Derived.Test.YtdiclbejalelfaaFwO
set_option linter.unusedVariables false
set_option linter.unusedSimpArgs false
namespace Go.Proofs.Ytdiclbejalelfaa
open Go.RowKit
open Rep (R)

def sAll (f : Operand → Option SV) : List Operand → Option (List SV)
  | [] => some []
  | x :: l => match f x, sAll f l with
    | some s, some r => some (s :: r)
    | _, _ => none
theorem sAll_val {f : Operand → Option SV} {hs : Nat → Hd} {ρ : Operand → Value} {m : Nat} (hf : ∀ x s, f x = some s → ρ x = s.val hs ∧ s.lt m) {l : List Operand} {r : List SV} (h : sAll f l = some r) : l.map ρ = svals hs r ∧ ∀ s ∈ r, s.lt m := by
  induction l generalizing r with
  | nil => simp [sAll] at h; subst h; simp [svals]
  | cons x l ih =>
    simp only [sAll] at h
    split at h
    · rename_i s r' hs' hr
      obtain rfl := Option.some.inj h
      obtain ⟨h3, h4⟩ := hf x s hs'
      obtain ⟨h5, h6⟩ := ih hr
      refine ⟨by rw [List.map_cons, h5, h3]; rfl, fun c hc => ?_⟩
      rcases List.mem_cons.1 hc with rfl | hc
      · exact h4
      · exact h6 c hc
    · simp at h
/-- The function and what it holds. -/
def capS : SV → Option (Nat × List SV)
  | .fn (.func f) cs => match cellsOnly cs with
    | true => some (f, cs)
    | false => none
  | .v (.func (.func f) ⟨[]⟩ caps) => match forceL (vs caps.toList) with
    | some l => some (f, l)
    | none => none
  | _ => none
where cellsOnly : List SV → Bool
  | [] => true
  | .agg _ :: _ => false
  | .fn _ _ :: _ => false
  | _ :: l => cellsOnly l
theorem cellsOnly_val {cs : List SV} (h : capS.cellsOnly cs = true) (hs : Nat → Hd) : svals hs cs = cvals hs cs ∧ ∀ m, (∀ c ∈ cs, c.clt m) → ∀ c ∈ cs, c.lt m := by
  induction cs with
  | nil => exact ⟨rfl, fun m _ c hc => by simp at hc⟩
  | cons s l ih =>
    have hl : capS.cellsOnly l = true ∧ s.val hs = s.cval hs ∧ ∀ m, s.clt m → s.lt m := by
      cases s with
      | agg _ => simp [capS.cellsOnly] at h
      | fn _ _ => simp [capS.cellsOnly] at h
      | v x => exact ⟨h, rfl, fun _ h => h⟩
      | tt => exact ⟨h, rfl, fun _ h => h⟩
      | ff => exact ⟨h, rfl, fun _ h => h⟩
      | p r o => exact ⟨h, rfl, fun _ h => h⟩
      | row r => exact ⟨h, rfl, fun _ h => h⟩
      | mp r => exact ⟨h, rfl, fun _ h => h⟩
      | ip t r o => exact ⟨h, rfl, fun _ h => h⟩
    obtain ⟨h1, h2, h3⟩ := hl
    obtain ⟨h4, h5⟩ := ih h1
    refine ⟨by show SV.val hs s :: svals hs l = SV.cval hs s :: cvals hs l; rw [h2, h4], fun m hm c hc => ?_⟩
    rcases List.mem_cons.1 hc with rfl | hc
    · exact h3 m (hm _ List.mem_cons_self)
    · exact h5 m (fun c hc => hm c (List.mem_cons_of_mem _ hc)) c hc
theorem vs_only (l : List Value) : capS.cellsOnly (vs l) = true := by
  induction l with
  | nil => rfl
  | cons x l ih => exact ih
theorem capS_val {s : SV} {f : Nat} {cs : List SV} (h : capS s = some (f, cs)) (hs : Nat → Hd) : s.val hs = .func (.func f) #[] (svals hs cs).toArray ∧ ∀ m, s.lt m → ∀ c ∈ cs, c.lt m := by
  unfold capS at h
  split at h
  · split at h
    · rename_i g cs' hc
      simp only [Option.some.injEq, Prod.mk.injEq] at h
      obtain ⟨rfl, rfl⟩ := h
      obtain ⟨h1, h2⟩ := cellsOnly_val hc hs
      exact ⟨by rw [h1]; rfl, fun m hm => h2 m hm⟩
    · simp at h
  · split at h
    · rename_i g caps _ l hl
      simp only [Option.some.injEq, Prod.mk.injEq] at h
      obtain ⟨rfl, rfl⟩ := h
      obtain rfl := forceL_eq hl
      obtain ⟨h1, h2⟩ := cellsOnly_val (vs_only caps.toList) hs
      exact ⟨by rw [h1, vs_val]; rfl, fun m hm => h2 m (vs_clt _ _)⟩
    · simp at h
  · simp at h
/-- The slots that are kept. -/
def keepS (env : Env) : List Nat → Option (List SV)
  | [] => some []
  | t :: l => match find env t, keepS env l with
    | some s, some r => some (s :: r)
    | _, _ => none
def zipE : List Nat → List SV → Env
  | t :: l, s :: r => (t, some s) :: zipE l r
  | _, _ => []
theorem keep_val {env : Env} {hs : Nat → Hd} {a : Act} {m : Nat} (hf : ∀ t s, find env t = some s → a.tmps[t]? = some (s.val hs) ∧ s.lt m) {l : List Nat} {r : List SV} (h : keepS env l = some r) :
    (∀ s ∈ r, s.lt m) ∧ ∀ (r' : List SV) (hs' : Nat → Hd) (m' : Nat), svals hs' r' = svals hs r → (∀ s ∈ r', s.lt m') → ∀ t s, find (zipE l r') t = some s → a.tmps[t]? = some (s.val hs') ∧ s.lt m' := by
  induction l generalizing r with
  | nil => simp [keepS] at h; subst h; exact ⟨by simp, fun r' hs' m' _ _ t s h => by simp [zipE, find] at h⟩
  | cons t0 l ih =>
    simp only [keepS] at h
    split at h
    · rename_i s r1 hs1 hr
      obtain rfl := Option.some.inj h
      obtain ⟨h3, h4⟩ := hf t0 s hs1
      obtain ⟨h5, h6⟩ := ih hr
      refine ⟨fun c hc => ?_, fun r' hs' m' hv hl t u hu => ?_⟩
      · rcases List.mem_cons.1 hc with rfl | hc
        · exact h4
        · exact h5 c hc
      · cases r' with
        | nil => simp [zipE, find] at hu
        | cons s' r' =>
          have hv' : s'.val hs' = s.val hs ∧ svals hs' r' = svals hs r1 := by
            have : s'.val hs' :: svals hs' r' = s.val hs :: svals hs r1 := hv
            injection this with h7 h8
            exact ⟨h7, h8⟩
          simp only [zipE, find] at hu
          split at hu
          · rename_i hb
            obtain rfl := Nat.eq_of_beq_eq_true hb
            obtain rfl := Option.some.inj hu
            exact ⟨by rw [h3, hv'.1], hl _ List.mem_cons_self⟩
          · exact h6 r' hs' m' hv'.2 (fun c hc => hl c (List.mem_cons_of_mem _ hc)) t u hu
    · simp at h
def envS : Nat → List SV → Env
  | _, [] => []
  | i, s :: l => (i, some s) :: envS (i + 1) l
theorem find_envS (ss : List SV) : ∀ i t s, find (envS i ss) t = some s → i ≤ t ∧ ss[t - i]? = some s := by
  induction ss with
  | nil => intro i t s h; simp [envS, find] at h
  | cons v vs ih =>
    intro i t s h
    simp only [envS, find] at h
    split at h
    · rename_i hb
      obtain rfl := Nat.eq_of_beq_eq_true hb
      obtain rfl := Option.some.inj h
      exact ⟨Nat.le_refl _, by simp⟩
    · obtain ⟨h2, h3⟩ := ih _ _ _ h
      refine ⟨by omega, ?_⟩
      rw [show t - i = (t - (i + 1)) + 1 by omega]
      simpa using h3

/-- How a call that was walked into goes back: to any state of J. -/
def Back (K : Value → World → Prop) (C : Ctx) (r0 : Nat) (vals : List Value) (J : List Ent → Ghost → List SV → SV → Prop) : Prop :=
  ∀ L' G' ks s, J L' G' ks s → ∀ hs a w env', Sim C env' L' G' hs a w → nth L' r0 = some (.sav ks vals) → s.lt L'.length → K (s.val hs) w

section
variable {P : Program} {T : Tab} {lops l l' : List Oper} {Q : Exit → Act → World → Prop} {C : Ctx} {env env' : Env} {gv gv' : GV} {L L' : List Ent} {G G' : Ghost} {o : Oper}

theorem Sim.saved {hs : Nat → Hd} {a : Act} {w : World} (S : Sim C env L G hs a w) {ks : List SV} (hk : ∀ s ∈ ks, s.lt L.length) :
    Sim C env (L ++ [.sav ks (svals hs ks)]) G (fun r => if r = L.length then ⟨0, undef⟩ else hs r) a w := by
  have heq : ∀ r, r < L.length → (fun r => if r = L.length then (⟨0, undef⟩ : Hd) else hs r) r = hs r := fun r hr => if_neg (Nat.ne_of_lt hr)
  have hold : ∀ (r : Nat) e', (L ++ [Ent.sav ks (svals hs ks)])[r]? = some e' → (r < L.length ∧ L[r]? = some e') ∨ (r = L.length ∧ e' = .sav ks (svals hs ks)) := by
    intro r e' hr
    rcases Nat.lt_or_ge r L.length with hlt | hge
    · rw [List.getElem?_append_left hlt] at hr; exact .inl ⟨hlt, hr⟩
    · rw [List.getElem?_append_right hge] at hr
      have : r - L.length = 0 := by
        rcases Nat.eq_zero_or_pos (r - L.length) with h0 | h0
        · exact h0
        · rw [List.getElem?_eq_none (by simp; omega)] at hr; simp at hr
      rw [this] at hr
      exact .inr ⟨by omega, by simpa using hr.symm⟩
  refine ⟨S.defers, S.size, fun t u ht => ?_, S.le, S.ok, S.new, S.below, fun r e' hr => ?_, fun r e' k hr hk' => ?_, fun r r' e1 e2 k h1 h2 h3 h4 => ?_⟩
  · obtain ⟨h1, h2⟩ := S.slot t u ht
    exact ⟨by rw [h1, SV.val_lt h2 heq], SV.lt_mono h2 (by simp)⟩
  · rcases hold r e' hr with ⟨hlt, hr'⟩ | ⟨rfl, rfl⟩
    · obtain ⟨h1, h2⟩ := S.holds r e' hr'
      simp only [if_neg (Nat.ne_of_lt hlt)]
      exact ⟨Ent.holds_lt h1 h2 heq, Ent.lt_mono h2 (by simp)⟩
    · exact ⟨svals_lt hk heq, fun s hs => SV.lt_mono (hk s hs) (by simp)⟩
  · rcases hold r e' hr with ⟨hlt, hr'⟩ | ⟨rfl, rfl⟩
    · simp only [if_neg (Nat.ne_of_lt hlt)] at hk'; exact S.own r e' k hr' hk'
    · simp [Ent.at_] at hk'
  · rcases hold r e1 h1 with ⟨hlt, hr⟩ | ⟨rfl, rfl⟩
    · simp only [if_neg (Nat.ne_of_lt hlt)] at h3
      rcases hold r' e2 h2 with ⟨hlt', hr'⟩ | ⟨rfl, rfl⟩
      · simp only [if_neg (Nat.ne_of_lt hlt')] at h4
        exact S.apart r r' e1 e2 k hr hr' h3 h4
      · simp [Ent.at_] at h4
    · simp [Ent.at_] at h3

/-- The heart: an operation enters a function; its walk is over the caller's own memory. -/
theorem enter_core {f n' : Nat} {fn : Func} {c : Code} {ss ks : List SV} {keep : List Nat} {hs : Nat → Hd} {a : Act} {w : World} (S : Sim C env L G hs a w) (hss : ∀ s ∈ ss, s.lt L.length)
    (hf : P.funcs[f]? = some fn) (hb : fn.body = some c) (hn : fn.ntmps = n') (hl : ss.length ≤ n') (hk : keepS env keep = some ks) (J : List Ent → Ghost → List SV → SV → Prop) {K : Value → World → Prop}
    (hK : ∀ L' G' ks' s, J L' G' ks' s → ∀ hs' w', Sim C (zipE keep ks') L' G' hs' a w' → s.lt L'.length → K (s.val hs') w')
    (body : ∀ (K : Value → World → Prop) (vals : List Value), Back K ⟨n', C.w0, C.G0, C.lent⟩ L.length vals J → E P c (bodyPost P fn fun e w' => ∃ v, e = .returned v ∧ K v w') ⟨n', C.w0, C.G0, C.lent⟩ (envS 0 ss) (app L (.sav ks vals)) G) :
    Calls P f (svals hs ss).toArray w fun e w' => ∃ v, e = .returned v ∧ K v w' := by
  obtain ⟨hk1, hk2⟩ := keep_val (a := a) S.slot hk
  have S0 := S.saved hk1
  have hb0 := body K (svals hs ks) (fun L' G' ks' s hJ hs' a' w' env' S' hsv hlt => by
    rw [nth_eq] at hsv
    obtain ⟨h1, h2⟩ := S'.holds _ _ hsv
    exact hK L' G' ks' s hJ hs' w' ⟨S.defers, S.size, fun t u hu => hk2 ks' hs' L'.length h1 h2 t u hu, S'.le, S'.ok, S'.new, S'.below, S'.holds, S'.own, S'.apart⟩ hlt)
  rw [app_eq] at hb0
  have heq : ∀ r, r < L.length → (fun r => if r = L.length then (⟨0, undef⟩ : Hd) else hs r) r = hs r := fun r hr => if_neg (Nat.ne_of_lt hr)
  refine calls_of_wp hf hb (hb0 _ _ w ⟨rfl, ?_, fun t s ht => ?_, S0.le, S0.ok, S0.new, S0.below, S0.holds, S0.own, S0.apart⟩)
  · simp [hn, svals]; omega
  · obtain ⟨_, h2⟩ := find_envS ss 0 t s ht
    rw [Nat.sub_zero] at h2
    have hmem := List.mem_of_getElem? h2
    have hlt : t < ss.length := (List.getElem?_eq_some_iff.1 h2).1
    refine ⟨?_, SV.lt_mono (hss s hmem) (by simp)⟩
    rw [Array.getElem?_append_left (by simpa [svals] using hlt), SV.val_lt (hss s hmem) heq]
    simp [svals, h2]

/-- A call of a function, or of a function value, walked into. -/
theorem EL.inl {d f n' : Nat} {fn : Func} {c : Code} {ss cs ks : List SV} {fv : SV} {fx : Operand} {xs : Array Operand} {tys : Array TypeId} (keep : List Nat) (hg : goes lops env o.guard = true) (hd : okDst C.n gv o.dst = some d)
    (ho : o.op = .call ⟨.value fx, xs, tys⟩) (hfx : ev env gv [] fx = some fv) (hcap : capS fv = some (f, cs)) (hxs : sAll (ev env gv []) xs.toList = some ss)
    (hf : P.funcs[f]? = some fn) (hen : Enters P f) (hb : fn.body = some c) (hn : fn.ntmps = n') (hl : Nat.ble (len' ss + len' cs) n' = true) (hk : keepS env keep = some ks) (J : List Ent → Ghost → List SV → SV → Prop)
    (next : ∀ L' G' ks' s, J L' G' ks' s → EL P lops Q C l ((d, some s) :: zipE keep ks') gnil L' G')
    (body : ∀ (K : Value → World → Prop) (vals : List Value), Back K ⟨n', C.w0, C.G0, C.lent⟩ (len' L) vals J → E P c (bodyPost P fn fun e w' => ∃ v, e = .returned v ∧ K v w') ⟨n', C.w0, C.G0, C.lent⟩ (envS 0 (ss ++ cs)) (app L (.sav ks vals)) G) :
    EL P lops Q C (o :: l) env gv L G := by
  intro hs a w S g
  obtain ⟨h1, h2, h3⟩ := okDst_eq hd
  unfold wpList
  rw [if_pos (goes_wanted S hg)]
  have hev : ∀ x s, ev env gv [] x = some s → a.eval x = s.val hs ∧ s.lt L.length := fun x s hx => ev_val S g (fun _ h => absurd h (by simp)) hx
  obtain ⟨ha1, ha2⟩ := sAll_val hev hxs
  obtain ⟨hc1, hc2⟩ := capS_val hcap hs
  obtain ⟨hf1, hf2⟩ := hev _ _ hfx
  refine .inl ?_
  have hargs : xs.map a.eval = (svals hs ss).toArray := by rw [← ha1, ← Array.toList_map]
  have hrun : (execOp a.eval o).run P w = .ok (.enter f (svals hs (ss ++ cs)).toArray) w := by
    simp only [execOp, ho, resolve, hargs, hf1, hc1, Deferred.ofValue, invoke, Sem.run_bind, Sem.run_pure, Result.andThen_ok, Array.empty_append]
    rw [hen.run]
    simp [svals]
  unfold Oper.wp
  rw [hrun, Oper.upon_enter]
  rw [len'_eq, len'_eq] at hl
  rw [len'_eq] at body
  refine Calls.mono (enter_core (K := fun v w' => wpList P lops.toArray Q l (a.put o.dst v) w') S (ss := ss ++ cs) (fun s hs => (List.mem_append.1 hs).elim (ha2 s) (hc2 _ hf2 s)) hf hb hn (by simpa using hl) hk J (fun L' G' ks' s hJ hs' w' S' hlt => ?_) body) ?_
  · rw [h1]
    exact next L' G' ks' s hJ hs' _ w' (S'.put h2 hlt) (GOk.nil _ _ _ _)
  · rintro e w' ⟨v, rfl, hv⟩
    exact hv

theorem EL.inl0 {f n' : Nat} {fn : Func} {c : Code} {ss cs ks : List SV} {fv : SV} {fx : Operand} {xs : Array Operand} {tys : Array TypeId} (keep : List Nat) (hg : goes lops env o.guard = true) (hd : o.dst = none)
    (ho : o.op = .call ⟨.value fx, xs, tys⟩) (hfx : ev env gv [] fx = some fv) (hcap : capS fv = some (f, cs)) (hxs : sAll (ev env gv []) xs.toList = some ss)
    (hf : P.funcs[f]? = some fn) (hen : Enters P f) (hb : fn.body = some c) (hn : fn.ntmps = n') (hl : Nat.ble (len' ss + len' cs) n' = true) (hk : keepS env keep = some ks) (J : List Ent → Ghost → List SV → SV → Prop)
    (next : ∀ L' G' ks' s, J L' G' ks' s → EL P lops Q C l (zipE keep ks') gnil L' G')
    (body : ∀ (K : Value → World → Prop) (vals : List Value), Back K ⟨n', C.w0, C.G0, C.lent⟩ (len' L) vals J → E P c (bodyPost P fn fun e w' => ∃ v, e = .returned v ∧ K v w') ⟨n', C.w0, C.G0, C.lent⟩ (envS 0 (ss ++ cs)) (app L (.sav ks vals)) G) :
    EL P lops Q C (o :: l) env gv L G := by
  intro hs a w S g
  unfold wpList
  rw [if_pos (goes_wanted S hg)]
  have hev : ∀ x s, ev env gv [] x = some s → a.eval x = s.val hs ∧ s.lt L.length := fun x s hx => ev_val S g (fun _ h => absurd h (by simp)) hx
  obtain ⟨ha1, ha2⟩ := sAll_val hev hxs
  obtain ⟨hc1, hc2⟩ := capS_val hcap hs
  obtain ⟨hf1, hf2⟩ := hev _ _ hfx
  refine .inl ?_
  have hargs : xs.map a.eval = (svals hs ss).toArray := by rw [← ha1, ← Array.toList_map]
  have hrun : (execOp a.eval o).run P w = .ok (.enter f (svals hs (ss ++ cs)).toArray) w := by
    simp only [execOp, ho, resolve, hargs, hf1, hc1, Deferred.ofValue, invoke, Sem.run_bind, Sem.run_pure, Result.andThen_ok, Array.empty_append]
    rw [hen.run]
    simp [svals]
  unfold Oper.wp
  rw [hrun, Oper.upon_enter]
  rw [len'_eq, len'_eq] at hl
  rw [len'_eq] at body
  refine Calls.mono (enter_core (K := fun v w' => wpList P lops.toArray Q l (a.put o.dst v) w') S (ss := ss ++ cs) (fun s hs => (List.mem_append.1 hs).elim (ha2 s) (hc2 _ hf2 s)) hf hb hn (by simpa using hl) hk J (fun L' G' ks' s hJ hs' w' S' hlt => ?_) body) ?_
  · rw [hd]
    exact next L' G' ks' s hJ hs' _ w' S' (GOk.nil _ _ _ _)
  · rintro e w' ⟨v, rfl, hv⟩
    exact hv

/-- A method behind an interface value that holds a pointer to a variable of the call's own. -/
theorem EL.inv {d f n' r off t : Nat} {fn : Func} {c : Code} {ss ks : List SV} {rs : SV} {rx : Operand} {name : String} {xs : Array Operand} {tys : Array TypeId} (keep : List Nat) (hg : goes lops env o.guard = true) (hd : okDst C.n gv o.dst = some d)
    (ho : o.op = .call ⟨.invoke rx name, xs, tys⟩) (hrx : ev env gv [] rx = some (.ip t r off)) (hxs : sAll (ev env gv []) xs.toList = some ss)
    (hm : ∀ hs a w, Sim C env L G hs a w → (method (P.types.size + Made.depth) t (.pointer (some ⟨(hs r).blk, off, none⟩)) name).run P w = .ok (f, rs.val hs) w ∧ rs.lt L.length)
    (hf : P.funcs[f]? = some fn) (hen : Enters P f) (hb : fn.body = some c) (hn : fn.ntmps = n') (hl : Nat.ble (len' ss + 1) n' = true) (hk : keepS env keep = some ks) (J : List Ent → Ghost → List SV → SV → Prop)
    (next : ∀ L' G' ks' s, J L' G' ks' s → EL P lops Q C l ((d, some s) :: zipE keep ks') gnil L' G')
    (body : ∀ (K : Value → World → Prop) (vals : List Value), Back K ⟨n', C.w0, C.G0, C.lent⟩ (len' L) vals J → E P c (bodyPost P fn fun e w' => ∃ v, e = .returned v ∧ K v w') ⟨n', C.w0, C.G0, C.lent⟩ (envS 0 (rs :: ss)) (app L (.sav ks vals)) G) :
    EL P lops Q C (o :: l) env gv L G := by
  intro hs a w S g
  obtain ⟨h1, h2, h3⟩ := okDst_eq hd
  unfold wpList
  rw [if_pos (goes_wanted S hg)]
  have hev : ∀ x s, ev env gv [] x = some s → a.eval x = s.val hs ∧ s.lt L.length := fun x s hx => ev_val S g (fun _ h => absurd h (by simp)) hx
  obtain ⟨ha1, ha2⟩ := sAll_val hev hxs
  obtain ⟨hf1, hf2⟩ := hev _ _ hrx
  obtain ⟨hm1, hm2⟩ := hm hs a w S
  refine .inl ?_
  have hargs : xs.map a.eval = (svals hs ss).toArray := by rw [← ha1, ← Array.toList_map]
  have hf1' : a.eval rx = .iface t (.pointer (some ⟨(hs r).blk, off, none⟩)) := hf1
  have hrun : (execOp a.eval o).run P w = .ok (.enter f (svals hs (rs :: ss)).toArray) w := by
    have hx : (#[a.eval rx] ++ (svals hs ss).toArray : Array Value)[0]? = some (.iface t (.pointer (some ⟨(hs r).blk, off, none⟩))) := by rw [hf1']; simp
    have hx2 : (#[a.eval rx] ++ (svals hs ss).toArray : Array Value).extract 1 (#[a.eval rx] ++ (svals hs ss).toArray : Array Value).size = (svals hs ss).toArray := by simp
    simp only [execOp, ho, resolve, hargs, invoke, Sem.run_bind, Sem.run_pure, Result.andThen_ok, hx, hx2, callMethod, run_program, hm1]
    rw [hen.run]
    simp [svals]
  unfold Oper.wp
  rw [hrun, Oper.upon_enter]
  rw [len'_eq] at hl
  rw [len'_eq] at body
  refine Calls.mono (enter_core (K := fun v w' => wpList P lops.toArray Q l (a.put o.dst v) w') S (ss := rs :: ss) (fun s hs => (List.mem_cons.1 hs).elim (fun e => e ▸ hm2) (ha2 s)) hf hb hn (by simpa using hl) hk J (fun L' G' ks' s hJ hs' w' S' hlt => ?_) body) ?_
  · rw [h1]
    exact next L' G' ks' s hJ hs' _ w' (S'.put h2 hlt) (GOk.nil _ _ _ _)
  · rintro e w' ⟨v, rfl, hv⟩
    exact hv
theorem EL.inv0 {f n' r off t : Nat} {fn : Func} {c : Code} {ss ks : List SV} {rs : SV} {rx : Operand} {name : String} {xs : Array Operand} {tys : Array TypeId} (keep : List Nat) (hg : goes lops env o.guard = true) (hd : o.dst = none)
    (ho : o.op = .call ⟨.invoke rx name, xs, tys⟩) (hrx : ev env gv [] rx = some (.ip t r off)) (hxs : sAll (ev env gv []) xs.toList = some ss)
    (hm : ∀ hs a w, Sim C env L G hs a w → (method (P.types.size + Made.depth) t (.pointer (some ⟨(hs r).blk, off, none⟩)) name).run P w = .ok (f, rs.val hs) w ∧ rs.lt L.length)
    (hf : P.funcs[f]? = some fn) (hen : Enters P f) (hb : fn.body = some c) (hn : fn.ntmps = n') (hl : Nat.ble (len' ss + 1) n' = true) (hk : keepS env keep = some ks) (J : List Ent → Ghost → List SV → SV → Prop)
    (next : ∀ L' G' ks' s, J L' G' ks' s → EL P lops Q C l (zipE keep ks') gnil L' G')
    (body : ∀ (K : Value → World → Prop) (vals : List Value), Back K ⟨n', C.w0, C.G0, C.lent⟩ (len' L) vals J → E P c (bodyPost P fn fun e w' => ∃ v, e = .returned v ∧ K v w') ⟨n', C.w0, C.G0, C.lent⟩ (envS 0 (rs :: ss)) (app L (.sav ks vals)) G) :
    EL P lops Q C (o :: l) env gv L G := by
  intro hs a w S g
  unfold wpList
  rw [if_pos (goes_wanted S hg)]
  have hev : ∀ x s, ev env gv [] x = some s → a.eval x = s.val hs ∧ s.lt L.length := fun x s hx => ev_val S g (fun _ h => absurd h (by simp)) hx
  obtain ⟨ha1, ha2⟩ := sAll_val hev hxs
  obtain ⟨hf1, hf2⟩ := hev _ _ hrx
  obtain ⟨hm1, hm2⟩ := hm hs a w S
  refine .inl ?_
  have hargs : xs.map a.eval = (svals hs ss).toArray := by rw [← ha1, ← Array.toList_map]
  have hf1' : a.eval rx = .iface t (.pointer (some ⟨(hs r).blk, off, none⟩)) := hf1
  have hrun : (execOp a.eval o).run P w = .ok (.enter f (svals hs (rs :: ss)).toArray) w := by
    have hx : (#[a.eval rx] ++ (svals hs ss).toArray : Array Value)[0]? = some (.iface t (.pointer (some ⟨(hs r).blk, off, none⟩))) := by rw [hf1']; simp
    have hx2 : (#[a.eval rx] ++ (svals hs ss).toArray : Array Value).extract 1 (#[a.eval rx] ++ (svals hs ss).toArray : Array Value).size = (svals hs ss).toArray := by simp
    simp only [execOp, ho, resolve, hargs, invoke, Sem.run_bind, Sem.run_pure, Result.andThen_ok, hx, hx2, callMethod, run_program, hm1]
    rw [hen.run]
    simp [svals]
  unfold Oper.wp
  rw [hrun, Oper.upon_enter]
  rw [len'_eq] at hl
  rw [len'_eq] at body
  refine Calls.mono (enter_core (K := fun v w' => wpList P lops.toArray Q l (a.put o.dst v) w') S (ss := rs :: ss) (fun s hs => (List.mem_cons.1 hs).elim (fun e => e ▸ hm2) (ha2 s)) hf hb hn (by simpa using hl) hk J (fun L' G' ks' s hJ hs' w' S' hlt => ?_) body) ?_
  · rw [hd]
    exact next L' G' ks' s hJ hs' _ w' S' (GOk.nil _ _ _ _)
  · rintro e w' ⟨v, rfl, hv⟩
    exact hv
/-- .. with a pointer receiver. -/
theorem mth_ptr {f r off t : Nat} {name : String} (hm : ∀ w b off, (method (P.types.size + Made.depth) t (.pointer (some ⟨b, off, none⟩)) name).run P w = .ok (f, .pointer (some ⟨b, off, none⟩)) w) (hr : Nat.blt r (len' L) = true) :
    ∀ hs a w, Sim C env L G hs a w → (method (P.types.size + Made.depth) t (.pointer (some ⟨(hs r).blk, off, none⟩)) name).run P w = .ok (f, (SV.p r off).val hs) w ∧ (SV.p r off).lt L.length :=
  fun hs a w _ => ⟨hm w _ _, by rw [len'_eq] at hr; show r < L.length; simpa using hr⟩
/-- .. with a receiver that is what lies there. -/
theorem mth_val {f r off t e : Nat} {name : String} {rs : SV} (hT : TOk P T) (hm : ∀ w b off, (method (P.types.size + Made.depth) t (.pointer (some ⟨b, off, none⟩)) name).run P w = (do let v ← loadVar e ⟨b, off, none⟩; pure (f, v) : Sem (FuncId × Value)).run P w)
    (h : valOp T (fun x => match x with | .tmp _ => some (.p r off) | _ => none) L (.load e (.tmp 0)) = some rs) (hr : Nat.blt r (len' L) = true) :
    ∀ hs a w, Sim C env L G hs a w → (method (P.types.size + Made.depth) t (.pointer (some ⟨(hs r).blk, off, none⟩)) name).run P w = .ok (f, rs.val hs) w ∧ rs.lt L.length := by
  intro hs a w S
  obtain ⟨hrun, hlt⟩ := valOp_run (P := P) (ρ := fun _ => .pointer (some ⟨(hs r).blk, off, none⟩)) (w := w) (o := ⟨none, .load e (.tmp 0), 0, "", #[], none⟩) hT (fun x s hx => by
    split at hx
    · obtain rfl := Option.some.inj hx
      rw [len'_eq] at hr
      exact ⟨rfl, by show r < L.length; simpa using hr⟩
    · simp at hx) S.holds h
  refine ⟨?_, hlt⟩
  rw [hm, Sem.run_bind]
  simp only [execOp, Instr.loadAt, Instr.sureAddr, Sem.run_bind, Sem.run_pure, Result.andThen_ok] at hrun
  cases hx : (loadVar e ⟨(hs r).blk, off, none⟩).run P w with
  | ok x w1 =>
    rw [hx] at hrun
    simp only [Result.andThen_ok, Result.ok.injEq, Next.value.injEq] at hrun
    obtain ⟨rfl, rfl⟩ := hrun
    rfl
  | halt x w1 => rw [hx] at hrun; simp at hrun

/-- Back from a call that was walked into. -/
theorem EX.back {fn : Func} {K : Value → World → Prop} {r0 : Nat} {vals : List Value} {J : List Ent → Ghost → List SV → SV → Prop} {rv : ResultVar} {s s' : SV} {ks : List SV} (hB : Back K C r0 vals J) (hJ : J L' G ks s') (hT : TOk P T) (hr : fn.results.toList = [rv]) (h : resS T env L rv = some s)
    (hv : ∀ hs, s'.val hs = s.val hs) (hsub : SubP L' L) (h1 : ltB (len' L') s' = true) (h2 : resB (len' L') L' = true) (hsv : nth L' r0 = some (.sav ks vals)) : EX (bodyPost P fn fun e w' => ∃ v, e = .returned v ∧ K v w') .ret C env L G := by
  intro hs a w S
  obtain ⟨hrun, hlt⟩ := resS_run hT S hr h
  have S' := S.fewer (env' := []) trivial hsub rfl h2
  refine ⟨S.defers, _, hrun, _, rfl, ?_⟩
  rw [← hv hs]
  rw [len'_eq] at h1
  exact hB L' G ks s' hJ hs a w [] S' hsv (ltB_spec h1)
theorem EX.backN {fn : Func} {K : Value → World → Prop} {r0 : Nat} {vals : List Value} {J : List Ent → Ghost → List SV → SV → Prop} {rv : ResultVar} {s s' : SV} {ks : List SV} (hB : Back K C r0 vals J) (hJ : J L' G ks s') (hT : TOk P T) (hr : fn.results.toList = [rv]) (h : resS T env L rv = some s)
    (hv : ∀ hs, s'.val hs = s.val hs) (hsub : SubP L' L) (h1 : ltB (len' L') s' = true) (h2 : resB (len' L') L' = true) (hsv : nth L' r0 = some (.sav ks vals)) : EX (bodyPost P fn fun e w' => ∃ v, e = .returned v ∧ K v w') .normal C env L G :=
  fun hs a w S => EX.back hB hJ hT hr h hv hsub h1 h2 hsv hs a w S
theorem EX.backV {fn : Func} {K : Value → World → Prop} {r0 : Nat} {vals : List Value} {J : List Ent → Ghost → List SV → SV → Prop} {vs : List Value} {ks : List SV} (hB : Back K C r0 vals J) (hJ : J L' G ks (.v (tup vs))) (hT : TOk P T) (h : resV T env L fn.results.toList = some vs)
    (hsub : SubP L' L) (h2 : resB (len' L') L' = true) (hsv : nth L' r0 = some (.sav ks vals)) : EX (bodyPost P fn fun e w' => ∃ v, e = .returned v ∧ K v w') .ret C env L G := by
  intro hs a w S
  have S' := S.fewer (env' := []) trivial hsub rfl h2
  exact ⟨S.defers, _, results_run hT S h, _, rfl, hB L' G ks (.v (tup vs)) hJ hs a w [] S' hsv trivial⟩
theorem EX.backVN {fn : Func} {K : Value → World → Prop} {r0 : Nat} {vals : List Value} {J : List Ent → Ghost → List SV → SV → Prop} {vs : List Value} {ks : List SV} (hB : Back K C r0 vals J) (hJ : J L' G ks (.v (tup vs))) (hT : TOk P T) (h : resV T env L fn.results.toList = some vs)
    (hsub : SubP L' L) (h2 : resB (len' L') L' = true) (hsv : nth L' r0 = some (.sav ks vals)) : EX (bodyPost P fn fun e w' => ∃ v, e = .returned v ∧ K v w') .normal C env L G :=
  fun hs a w S => EX.backV hB hJ hT h hsub h2 hsv hs a w S

def TK.conc : TK → Bool
  | .iface | .other => false
  | _ => true
/-- What an interface value holds, of a type that it is of. -/
theorem EL.assert {d t xt s1 b1 : Nat} {z1 : List Value} {kd : TK} {x : Operand} {v : Value} (hT : TOk P T) (hg : goes lops env o.guard = true) (hd : okDst C.n gv o.dst = some d)
    (ho : o.op = .typeAssert x xt t false) (hx : ev env gv [] x = some (.v (.iface t v))) (ht : ti T t = some ⟨s1, b1, z1, kd⟩) (hk : TK.conc kd = true)
    (next : EL P lops Q C l ((d, some (.v v)) :: env) gv L G) : EL P lops Q C (o :: l) env gv L G := by
  refine EL.val (s := .v _) hg hd (fun hs a w S g => ⟨?_, trivial⟩) next
  obtain ⟨ud, hku, hru⟩ := run_und hT ht w
  have hxv := ev_v S g hx
  simp only [execOp, ho, hxv, Instr.typeAssert, Sem.run_bind, hru, Result.andThen_ok, SV.val, SV.cval]
  cases ud <;> first
    | (simp; done)
    | (exfalso; simp only [TK.of] at hku; subst hku; simp [TK.conc] at hk; done)

/-- A part of an element takes another's place. -/
theorem EL.storePart {t r e sz n by_ q j off s1 : Nat} {x y : Operand} {es : List Value} {z : List Value} {k : TK} {v u u' : Value} (hj : es[j]? = some u) (hset0 : setN off v.cells.toList u.cells.toList = some u'.cells.toList)
    (hT : TOk P T) (hg : goes lops env o.guard = true) (hd : o.dst = none)
    (ho : o.op = .store t x y) (hx : ev env gv [] x = some (.p r q)) (hq : q = j * sz + off) (hy : ev env gv [] y = some (.v v)) (hr : nth L r = some (.row e sz n es)) (ht : ti T t = some ⟨s1, by_, z, k⟩) (hvs : v.cells.size = s1) (hvo : ∀ c ∈ v.cells, c.oneCell' = true)
    (next : EL P lops Q C l env gv (setL L r (.row e sz n (es.set j u'))) G) : EL P lops Q C (o :: l) env gv L G := by
  intro hs a w S g
  rw [nth_eq] at hr
  have hlt : r < L.length := (List.getElem?_eq_some_iff.1 hr).1
  obtain ⟨k1, k2, k3, k4, k5⟩ := (S.holds r _ hr).1
  have hjn : j < n := by rw [← k1]; exact (List.getElem?_eq_some_iff.1 hj).1
  have hum : u ∈ es := List.mem_of_getElem? hj
  obtain ⟨q1, q2, q3⟩ := setN_get hset0
  have husz : u'.cells.size = sz := by rw [← Array.length_toList, q1, Array.length_toList]; exact k2 u hum
  have huone : ∀ c ∈ u'.cells, c.oneCell' = true := fun c hc => by
    obtain ⟨i, hi⟩ := List.getElem?_of_mem (Array.mem_toList_iff.2 hc)
    rw [q3 i] at hi
    split at hi
    · exact hvo c (Array.mem_toList_iff.1 (List.mem_of_getElem? hi))
    · exact k3 u hum c (Array.mem_toList_iff.1 (List.mem_of_getElem? hi))
  have hes2 : ∀ u ∈ es.set j u', u.cells.size = sz := fun u hu => by
    rcases List.mem_or_eq_of_mem_set hu with hu | rfl
    · exact k2 u hu
    · exact husz
  have hes3 : ∀ u ∈ es.set j u', ∀ c ∈ u.cells, c.oneCell' = true := fun u hu => by
    rcases List.mem_or_eq_of_mem_set hu with hu | rfl
    · exact k3 u hu
    · exact huone
  rcases k4.2 with ⟨_, k7⟩ | ⟨gq, cap, cur, k7, k8, k9, k10, k11, k12, k13⟩
  · omega
  · have hb : gq = (hs r).blk := k5 gq (by rw [k7]; rfl)
    subst hb
    have hxv : a.eval x = .pointer (some ⟨(hs r).blk, q, none⟩) := (ev_val S g (fun _ h => absurd h (by simp)) hx).1
    have hyv := ev_v S g hy
    have hfl := flat_len es k2
    rw [k1] at hfl
    have hbound : j * sz + sz ≤ n * sz := by rw [← Nat.succ_mul]; exact Nat.mul_le_mul_right _ hjn
    have hcb : n * sz ≤ cap * sz := Nat.mul_le_mul_right _ k10
    have hul : u.cells.toList.length = sz := by rw [Array.length_toList]; exact k2 u hum
    obtain ⟨cur', hset⟩ := setN_some (j * sz + off) v.cells.toList cur.toList (by simp [k12] at q2 hul ⊢; omega)
    obtain ⟨h1, h2, h3⟩ := setN_get hset
    obtain ⟨w', hrun, hgq, honly, hsize⟩ := storeCells_only (P := P) (hs r).blk e v.cells.toList (j * sz + off) 0 cur.toList cur' w (by simpa using k9) (fun c hc => hvo c (by simpa using hc)) (by simpa using hset)
    have S' := S.turn (w' := w') (e' := .row e sz n (es.set j u')) (hv := hs r) hr (fun k hk hne => honly.block k hk (fun h => hne (by simp [Ent.at_, k7, Value.ownBlock, h]))) honly.os honly.tape honly.output honly.size
      ⟨by simp [k1], hes2, hes3, ⟨by rw [flat_len (sz := sz) _ hes2]; simp [k1], .inr ⟨(hs r).blk, cap, cur'.toArray, k7, Nat.zero_le _, hgq, k10, k11, by simp [h1, k12], ?_⟩⟩, k5⟩
      trivial (fun k hk => .inl hk) (fun t s _ => by
        have : (fun q => if q = r then hs r else hs q) = hs := by funext q; split <;> simp_all
        rw [this]) (fun q f _ _ => Ent.sees_eq (by funext q; split <;> simp_all) f)
    · have hfun : (fun q => if q = r then hs r else hs q) = hs := by funext q; split <;> simp_all
      rw [hfun] at S'
      unfold wpList
      rw [if_pos (goes_wanted S hg)]
      refine .inl ?_
      have hex : (execOp a.eval o).run P w = .ok .skip w' := by
        subst hq
        simp only [execOp, ho, hxv, hyv, Instr.storeAt, Instr.sureAddr, Sem.run_bind, Sem.run_pure, Result.andThen_ok, storeVar, run_size hT ht]
        rw [if_neg (by simp [hvs])]
        simp only [Sem.run_pure, Result.andThen_ok, hrun]
      unfold Oper.wp
      rw [hex, Oper.upon_skip, hd]
      have nx := next
      rw [setL_eq] at nx
      exact nx hs _ w' S' (g.move (by simp) (fun _ _ => rfl))
    · refine List.ext_getElem? fun i => ?_
      rw [flat_set k2 (by omega) husz]
      rw [List.toList_toArray, List.getElem?_take]
      have hvl : v.cells.toList.length = v.cells.size := Array.length_toList
      by_cases hi : i < n * sz
      · rw [if_pos hi, h3 i]
        by_cases hc : j * sz ≤ i ∧ i < j * sz + sz
        · rw [if_pos hc, q3 (i - j * sz)]
          by_cases hc2 : off ≤ i - j * sz ∧ i - j * sz < off + v.cells.toList.length
          · rw [if_pos hc2, if_pos (by omega), show i - (j * sz + off) = i - j * sz - off by omega]
          · rw [if_neg hc2, if_neg (by omega)]
            have hfl2 := flat_set k2 (j := j) (v := u) (by omega) (k2 u hum) i
            rw [if_pos hc] at hfl2
            rw [← hfl2]
            have hself : es.set j u = es := by
              refine List.ext_getElem? fun q => ?_
              rw [List.getElem?_set]
              split
              · rename_i hq2; subst hq2; rw [if_pos (by omega)]; exact hj.symm
              · rfl
            rw [hself, ← k13, List.getElem?_take, if_pos hi]
        · rw [if_neg hc, if_neg (by omega), ← k13, List.getElem?_take, if_pos hi]
      · rw [if_neg hi, if_neg (by omega), List.getElem?_eq_none (by omega)]
end
end Go.Proofs.Ytdiclbejalelfaa
