/- Variables handed over; rows of the call's own made, read, written; strings' bytes; structs compared. No condition. -/
import Derived.Test.YtdiclbejalelfaaFwI
import Derived.Laws.StructEq
set_option linter.unusedVariables false
set_option linter.unusedSimpArgs false
namespace Go.Proofs.Ytdiclbejalelfaa
open Go.RowKit
open Rep (R)

section
variable {P : Program} {T : Tab} {lops l l' : List Oper} {Q : Exit → Act → World → Prop} {C : Ctx} {env env' : Env} {gv gv' : GV} {L L' : List Ent} {G G' : Ghost} {o : Oper}

/-- Another view of the same state. -/
def Turn (C : Ctx) (env : Env) (L : List Ent) (G : Ghost) (X : Env → List Ent → Ghost → Prop) : Prop := ∀ hs a w, Sim C env L G hs a w → ∃ env' L' G' hs', X env' L' G' ∧ Sim C env' L' G' hs' a w
theorem E.turn {c : Code} {X : Env → List Ent → Ghost → Prop} (h : Turn C env L G X) (k : ∀ env' L' G', X env' L' G' → E P c Q C env' L' G') : E P c Q C env L G := by
  intro hs a w S
  obtain ⟨e1, L1, G1, hs1, hX, S1⟩ := h hs a w S
  exact k e1 L1 G1 hX hs1 a w S1
theorem EX.turn {x : Exit} {X : Env → List Ent → Ghost → Prop} (h : Turn C env L G X) (k : ∀ env' L' G', X env' L' G' → EX Q x C env' L' G') : EX Q x C env L G := by
  intro hs a w S
  obtain ⟨e1, L1, G1, hs1, hX, S1⟩ := h hs a w S
  exact k e1 L1 G1 hX hs1 a w S1
theorem EL.turn {X : Env → List Ent → Ghost → Prop} (h : Turn C env L G X) (hg : noG gv = true) (k : ∀ env' L' G', X env' L' G' → EL P lops Q C l env' gv L' G') : EL P lops Q C l env gv L G := by
  intro hs a w S g
  obtain ⟨e1, L1, G1, hs1, hX, S1⟩ := h hs a w S
  exact k e1 L1 G1 hX hs1 a w S1 (g.any hg)

/-- What a frozen variable adds to what is known. -/
def withBox (G : Ghost) (blk : Nat) (vs : List Value) : Ghost := fun x => if x.block = blk ∧ x.spot = none ∧ x.off < vs.length then vs[x.off]? else G x

theorem Turn.pubBox (r : Nat) {t : TypeId} {cs : List SV} {vs : List Value} (hr : nth L r = some (.box t cs)) (hp : toPlain cs = some vs) :
    Turn C env L G (fun env' L' G' => ∃ blk u, GLe G G' ∧ CellsAt G' blk 0 (.agg vs.toArray) ∧ env' = killE r blk u env ∧ L' = setL (killR r blk u L) r .gone) := by
  intro hs a w S
  rw [nth_eq] at hr
  have hh : w.heap[(hs r).blk]? = some (.cells (cvals hs cs).toArray t (0, 0)) := (S.holds r _ hr).1
  rw [toPlain_val hp] at hh
  have hoff : ∀ x : Addr, x.block = (hs r).blk → G x = none := (S.own r _ _ hr rfl).2.2
  have hle : GLe G (withBox G (hs r).blk vs) := by
    intro x v hx
    unfold withBox
    rw [if_neg (fun e => by rw [hoff x e.1] at hx; simp at hx)]
    exact hx
  refine ⟨_, _, withBox G (hs r).blk vs, hs, ⟨(hs r).blk, (hs r).val, hle, fun j c hc => ?_, rfl, rfl⟩, ?_⟩
  · have hc' : vs[j]? = some c := by simpa [Value.cells] using hc
    have hlt : j < vs.length := (List.getElem?_eq_some_iff.1 hc').1
    unfold withBox
    rw [Nat.zero_add, if_pos ⟨rfl, rfl, hlt⟩]
    exact hc'
  · have S' := (S.publish hr hle (fun x v hx => by
      unfold withBox at hx
      split at hx
      · rename_i hc
        obtain ⟨hb, hsp, hlt⟩ := hc
        have : x = ⟨(hs r).blk, x.off, none⟩ := by cases x; simp at hb hsp; simp [hb, hsp]
        rw [this, cell_box hh]; exact hx
      · exact S.ok x v hx) (fun x v hx => by
      unfold withBox at hx
      split at hx
      · rename_i hc; exact .inr (by rw [hc.1]; rfl)
      · exact .inl hx)).kill r
    rw [setL_eq]
    have e1 : killR r (hs r).blk (hs r).val (L.set r .gone) = (killR r (hs r).blk (hs r).val L).set r .gone := by
      refine List.ext_getElem? fun q => ?_
      rw [killR_get, List.getElem?_set, List.getElem?_set, killR_len]
      split
      · split <;> rfl
      · rw [killR_get]
    rw [e1] at S'
    exact S'

/-! ### make -/
theorem replicate_flat (z : Value) (sz : Nat) (hz : z.cells.size = sz) (n : Nat) (hp : 0 < sz) : flat (List.replicate n z) = (madeCells z.cells (n * sz)).toList := by
  refine List.ext_getElem? fun j => ?_
  have hlen := flat_len (sz := sz) (List.replicate n z) (fun u hu => by rw [(List.mem_replicate.1 hu).2]; exact hz)
  rw [List.length_replicate] at hlen
  by_cases hj : j < n * sz
  · have h1 : j / sz < n := Nat.div_lt_of_lt_mul (by rw [Nat.mul_comm]; exact hj)
    have hg := flat_get (sz := sz) (es := List.replicate n z) (fun u hu => by rw [(List.mem_replicate.1 hu).2]; exact hz) (j / sz) (j % sz) z (z.cells[j % sz]'(by rw [hz]; exact Nat.mod_lt _ hp)) (by simp [h1]) (by simp [hz, Nat.mod_lt _ hp])
    rw [show j / sz * sz + j % sz = j by rw [Nat.mul_comm]; exact Nat.div_add_mod j sz] at hg
    rw [hg]
    simp [madeCells, hj, hz, Nat.mod_lt _ hp]
  · rw [List.getElem?_eq_none (by omega), List.getElem?_eq_none (by simp [size_madeCells]; omega)]

theorem EL.makeSlice {d t e sz by_ b1 s1 : Nat} {x y : Operand} {k : IntKind} {n : Int} {z1 : List Value} {z : Value} {kd : TK} (hT : TOk P T) (hg : goes lops env o.guard = true) (hd : okDst C.n gv o.dst = some d)
    (ho : o.op = .makeSlice t x y) (hx : ev env gv [] x = some (.v (.int k n))) (hy : ev env gv [] y = some (.v (.int k n))) (h0 : 0 ≤ n) (h1 : n ≤ 4294967296)
    (ht : ti T t = some ⟨s1, b1, z1, .slice e⟩) (hte : ti T e = some ⟨sz, by_, z.cells.toList, kd⟩) (hz : Nat.beq (len' z.cells.toList) sz = true) (hpos : Nat.ble 1 sz = true) (hby : Nat.ble by_ 32768 = true) (hone : oneAll [] (vs z.cells.toList) = true)
    (next : EL P lops Q C l ((d, some (.row (len' L))) :: env) gv (app L (.row e sz n.toNat (List.replicate n.toNat z))) G) : EL P lops Q C (o :: l) env gv L G := by
  intro hs a w S g
  obtain ⟨hd1, hd2, hd3⟩ := okDst_eq hd
  obtain ⟨i, u, zv, hi, hu, hzv, hsz, hby', hzc, hk⟩ := ti_info hT hte
  obtain ⟨i', u', _, _, hu', _, _, _, _, hk'⟩ := ti_info hT ht
  obtain rfl := und_slice hk'
  have hz' := Nat.eq_of_beq_eq_true hz
  rw [len'_eq, Array.length_toList] at hz'
  have hpos' : 0 < sz := Nat.le_of_ble_eq_true hpos
  have hby2 : by_ ≤ 32768 := Nat.le_of_ble_eq_true hby
  have hzz : zv.cells = z.cells := Array.toList_inj.1 hzc
  have hn : ((n.toNat : Nat) : Int) = n := Int.toNat_of_nonneg h0
  have hmul : i.bytes * n.toNat ≤ 281474976710656 := by
    rw [hby']
    have : by_ * n.toNat ≤ 32768 * 4294967296 := Nat.mul_le_mul hby2 (by omega)
    exact Nat.le_trans this (by decide)
  have hr := run_make (P := P) w t e i zv hu' hi hzv k k n n h0 (Int.le_refl _) (by
    have h9 : ((i.bytes * n.toNat : Nat) : Int) ≤ 281474976710656 := Int.ofNat_le.2 hmul
    rw [Int.natCast_mul, hn] at h9; exact h9) (by omega)
  unfold wpList
  rw [if_pos (goes_wanted S hg)]
  refine .inl ?_
  have hex : (execOp a.eval o).run P w = .ok (.value (.slice (some ⟨w.heap.size, 0, none⟩) n.toNat n.toNat)) (w.alloc (.cells (madeCells zv.cells (n.toNat * i.size)) e)) := by
    simp only [execOp, ho, ev_v S g hx, ev_v S g hy, Sem.run_bind, hr, Result.andThen_ok, Sem.run_pure]
  unfold Oper.wp
  rw [hex, Oper.upon_value, hd1, hzz, hsz]
  have hrow := World.ownsRow_lit (base := 0) (e := e) (size := sz) w (madeCells z.cells (n.toNat * sz)) n.toNat (Nat.zero_le _) (by unfold maxLen; omega) (size_madeCells _ _)
  rw [← replicate_flat z sz hz' n.toNat hpos'] at hrow
  have S' := S.alloc (.cells (madeCells z.cells (n.toNat * sz)) e) (.row e sz n.toNat (List.replicate n.toNat z)) (.slice (some ⟨w.heap.size, 0, none⟩) n.toNat n.toNat) trivial
    ⟨by simp, fun u hu => by rw [(List.mem_replicate.1 hu).2]; exact hz', fun u hu c hc => by
      rw [(List.mem_replicate.1 hu).2] at hc
      have := oneAll_val hone (hs := fun _ => ⟨0, undef⟩) (by intro r e1 sz1 n1 es1 hr1; simp at hr1)
      rw [vs_val] at this
      exact this c (by simpa using hc), hrow, fun k hk => by simp [Value.ownBlock] at hk; exact hk.symm⟩
    (fun k hk => by simp [Ent.at_, Value.ownBlock] at hk; exact hk.symm)
  have nx := next
  rw [len'_eq, app_eq] at nx
  have S2 := S'.put hd2 (s := .row L.length) (by simp [SV.lt, SV.clt])
  refine nx _ _ _ ?_ ((g.move (L' := L ++ [_]) (hs' := fun r => if r = L.length then ⟨w.heap.size, .slice (some ⟨w.heap.size, 0, none⟩) n.toNat n.toNat⟩ else hs r) (by simp) (fun r hr => by simp [Nat.ne_of_lt hr])).put hd3 _)
  simpa [SV.val, SV.cval] using S2

/-! ### in rows of the call's own -/
/-- The address of an element. -/
theorem EL.indexRow {d t r e sz n s1 b1 by_ : Nat} {x ix : Operand} {es : List Value} {z1 z2 : List Value} {kd : TK} {k : IntKind} {i : Int} (h0 : 0 ≤ i) (h1 : i < n) (hT : TOk P T) (hg : goes lops env o.guard = true) (hd : okDst C.n gv o.dst = some d)
    (ho : o.op = .indexAddr t x ix) (hx : ev env gv [] x = some (.row r)) (hi : ev env gv [] ix = some (.v (.int k i))) (hr : nth L r = some (.row e sz n es)) (ht : ti T t = some ⟨s1, b1, z1, .slice e⟩) (hte : ti T e = some ⟨sz, by_, z2, kd⟩)
    (next : EL P lops Q C l ((d, some (.p r (i.toNat * sz))) :: env) gv L G) : EL P lops Q C (o :: l) env gv L G := by
  refine EL.val (s := .p r (i.toNat * sz)) hg hd (fun hs a w S g => ⟨?_, ?_⟩) next
  · rw [nth_eq] at hr
    obtain ⟨k1, k2, k3, k4, k5⟩ := (S.holds r _ hr).1
    obtain ⟨ud, hk, hru⟩ := run_und hT ht w
    obtain rfl := und_slice hk
    rcases k4.2 with ⟨_, k7⟩ | ⟨gq, cap, cur, k7, _⟩
    · omega
    · have hb : gq = (hs r).blk := k5 gq (by rw [k7]; rfl)
      have hxv : a.eval x = .slice (some ⟨gq, 0, none⟩) n cap := by rw [← k7]; exact ev_row S g hx
      simp only [execOp, ho, hxv, ev_v S g hi, Instr.indexAt, asIntOf, Sem.run_bind, Sem.run_pure, Result.andThen_ok, hru, SV.val, SV.cval]
      rw [if_pos ⟨h0, h1⟩, Sem.run_bind, run_size hT hte]
      simp only [Sem.run_pure, Result.andThen_ok, add_none, Nat.zero_add, hb]
  · rw [nth_eq] at hr
    exact (List.getElem?_eq_some_iff.1 hr).1

/-- A load of an element, or of a part of one. -/
theorem EL.loadRow {d t r e sz n by_ size j off q : Nat} {x : Operand} {es : List Value} {z : List Value} {k : TK} {u v : Value} (hj : es[j]? = some u) (hpart : ∀ i c, v.cells.toList[i]? = some c → u.cells.toList[off + i]? = some c)
    (hT : TOk P T) (hg : goes lops env o.guard = true) (hd : okDst C.n gv o.dst = some d)
    (ho : o.op = .load t x) (hx : ev env gv [] x = some (.p r q)) (hq : q = j * sz + off) (hr : nth L r = some (.row e sz n es)) (ht : ti T t = some ⟨size, by_, z, k⟩) (hu : shapeOk k size v = true)
    (next : EL P lops Q C l ((d, some (.v v)) :: env) gv L G) : EL P lops Q C (o :: l) env gv L G := by
  refine EL.val (s := .v _) hg hd (fun hs a w S g => ⟨?_, trivial⟩) next
  rw [nth_eq] at hr
  obtain ⟨k1, k2, k3, k4, k5⟩ := (S.holds r _ hr).1
  have hjn : j < n := by rw [← k1]; exact (List.getElem?_eq_some_iff.1 hj).1
  obtain ⟨gq, hown, hb⟩ : ∃ gq, (hs r).val.ownBlock = some gq ∧ gq = (hs r).blk := by
    rcases k4.2 with ⟨_, k7⟩ | ⟨gq, cap, cur, k7, _⟩
    · omega
    · exact ⟨gq, by rw [k7]; rfl, k5 gq (by rw [k7]; rfl)⟩
  have hxv : a.eval x = .pointer (some ⟨(hs r).blk, q, none⟩) := (ev_val S g (fun _ h => absurd h (by simp)) hx).1
  have key : ∀ i c, v.cells.toList[i]? = some c → w.cell? ⟨(hs r).blk, q + i, none⟩ = some c := fun i c hc => by
    have h6 := flat_get k2 j (off + i) u c hj (hpart i c hc)
    have := k4.cells hown (j * sz + (off + i)) c h6
    rw [add_none, Nat.zero_add] at this
    rw [← hb, hq, Nat.add_assoc]; exact this
  have agg : k.isAgg = true → ∀ cs, v = .agg cs → cs.size = size → (loadVar t ⟨(hs r).blk, q, none⟩).run P w = .ok v w := by
    rintro hk cs rfl hsz
    have := run_loadVar_agg hT ht hk (w := w) (g := (hs r).blk) (o := q) (r := cs.toList) (by simpa using hsz) key
    simpa using this
  simp only [execOp, ho, hxv, Instr.loadAt, Instr.sureAddr, Sem.run_bind, Sem.run_pure, Result.andThen_ok, SV.val, SV.cval]
  have hrun : (loadVar t ⟨(hs r).blk, q, none⟩).run P w = .ok v w := by
    unfold shapeOk at hu
    split at hu
    · simp at hu
    · split at hu
      · rename_i cs
        have := Nat.eq_of_beq_eq_true hu
        rw [len'_eq, Array.length_toList] at this
        exact agg rfl cs rfl this
      · simp at hu
    · split at hu
      · rename_i cs
        have := Nat.eq_of_beq_eq_true hu
        rw [len'_eq, Array.length_toList] at this
        exact agg rfl cs rfl this
      · simp at hu
    · rename_i h1 h2 h3
      have h7 : k.isAgg = false := by
        cases k with
        | struct fs => exact absurd rfl (h2 fs)
        | arr n e => exact absurd rfl (h3 n e)
        | _ => rfl
      refine run_loadVar_one hT ht h7 h1 ?_
      have hcell : v.cells = #[v] := by
        split at hu
        · simp at hu
        · simp at hu
        · rename_i h4 h5
          cases v <;> first | rfl | exact absurd rfl (h4 _)
      have := key 0 v (by rw [hcell]; rfl)
      rwa [Nat.add_zero] at this
  rw [hrun]; rfl
theorem part_whole (u : Value) : ∀ i c, u.cells.toList[i]? = some c → u.cells.toList[0 + i]? = some c := fun i c h => by rw [Nat.zero_add]; exact h
theorem part_fld {cs : Array Value} {j : Nat} {v : Value} (h : nth cs.toList j = some v) (hone : v.cells = #[v]) : ∀ i c, v.cells.toList[i]? = some c → (Value.agg cs).cells.toList[j + i]? = some c := by
  intro i c hc
  rw [hone] at hc
  cases i with
  | zero => simp at hc; subst hc; rw [nth_eq] at h; exact h
  | succ i => simp at hc

theorem flat_set {sz : Nat} {es : List Value} (hsz : ∀ u ∈ es, u.cells.size = sz) {j : Nat} {v : Value} (hj : j < es.length) (hv : v.cells.size = sz) : ∀ i, (flat (es.set j v))[i]? = if j * sz ≤ i ∧ i < j * sz + sz then v.cells.toList[i - j * sz]? else (flat es)[i]? := by
  induction es generalizing j with
  | nil => simp at hj
  | cons e es ih =>
    intro i
    have he : e.cells.toList.length = sz := by rw [Array.length_toList]; exact hsz e List.mem_cons_self
    have hvl : v.cells.toList.length = sz := by rw [Array.length_toList]; exact hv
    cases j with
    | zero =>
      show (v.cells.toList ++ flat es)[i]? = if 0 * sz ≤ i ∧ i < 0 * sz + sz then v.cells.toList[i - 0 * sz]? else (e.cells.toList ++ flat es)[i]?
      rw [Nat.zero_mul, Nat.zero_add, Nat.sub_zero]
      by_cases hi : i < sz
      · rw [if_pos ⟨Nat.zero_le _, hi⟩, List.getElem?_append_left (by omega)]
      · rw [if_neg (by omega), List.getElem?_append_right (by omega), List.getElem?_append_right (by omega), hvl, he]
    | succ j =>
      show (e.cells.toList ++ flat (es.set j v))[i]? = if (j + 1) * sz ≤ i ∧ i < (j + 1) * sz + sz then v.cells.toList[i - (j + 1) * sz]? else (e.cells.toList ++ flat es)[i]?
      have hm : (j + 1) * sz = j * sz + sz := Nat.succ_mul j sz
      by_cases hi : i < sz
      · rw [if_neg (by omega), List.getElem?_append_left (by omega), List.getElem?_append_left (by omega)]
      · rw [List.getElem?_append_right (by omega), List.getElem?_append_right (by omega), he, ih (fun u hu => hsz u (List.mem_cons_of_mem _ hu)) (by simpa using hj), hm]
        by_cases hc : j * sz ≤ i - sz ∧ i - sz < j * sz + sz
        · rw [if_pos hc, if_pos (by omega)]; rw [show i - (j * sz + sz) = i - sz - j * sz by omega]
        · rw [if_neg hc, if_neg (by omega)]

/-- An element takes another's place. -/
theorem EL.storeRow {t r e sz n by_ q j : Nat} {x y : Operand} {es : List Value} {z : List Value} {k : TK} {v : Value} (hjn : j < n)
    (hT : TOk P T) (hg : goes lops env o.guard = true) (hd : o.dst = none)
    (ho : o.op = .store t x y) (hx : ev env gv [] x = some (.p r q)) (hq : q = j * sz) (hy : ev env gv [] y = some (.v v)) (hr : nth L r = some (.row e sz n es)) (ht : ti T t = some ⟨sz, by_, z, k⟩) (hvs : v.cells.size = sz) (hvo : ∀ c ∈ v.cells, c.oneCell' = true)
    (next : EL P lops Q C l env gv (setL L r (.row e sz n (es.set j v))) G) : EL P lops Q C (o :: l) env gv L G := by
  intro hs a w S g
  rw [nth_eq] at hr
  have hlt : r < L.length := (List.getElem?_eq_some_iff.1 hr).1
  obtain ⟨k1, k2, k3, k4, k5⟩ := (S.holds r _ hr).1
  rcases k4.2 with ⟨_, k7⟩ | ⟨gq, cap, cur, k7, k8, k9, k10, k11, k12, k13⟩
  · omega
  · have hb : gq = (hs r).blk := k5 gq (by rw [k7]; rfl)
    subst hb
    have hxv : a.eval x = .pointer (some ⟨(hs r).blk, q, none⟩) := (ev_val S g (fun _ h => absurd h (by simp)) hx).1
    have hyv := ev_v S g hy
    have hfl := flat_len es k2
    rw [k1] at hfl
    have hbound : j * sz + sz ≤ n * sz := by rw [← Nat.succ_mul]; exact Nat.mul_le_mul_right _ hjn
    have hcb : n * sz ≤ cap * sz := Nat.mul_le_mul_right _ k10
    obtain ⟨cur', hset⟩ : ∃ cur', setN (j * sz) v.cells.toList cur.toList = some cur' := by
      have : ∀ (m : Nat) (vs l : List Value), m + vs.length ≤ l.length → ∃ r, setN m vs l = some r := by
        intro m
        induction m with
        | zero =>
          intro vs
          induction vs with
          | nil => intro l _; cases l <;> exact ⟨_, rfl⟩
          | cons v vs ih =>
            intro l hl
            cases l with
            | nil => simp at hl
            | cons x l =>
              obtain ⟨r, hr⟩ := ih l (by simp at hl; omega)
              exact ⟨v :: r, by simp only [setN, hr]⟩
        | succ m ihm =>
          intro vs l hl
          cases l with
          | nil => simp at hl
          | cons x l =>
            obtain ⟨r, hr⟩ := ihm vs l (by simp at hl; omega)
            exact ⟨x :: r, by simp only [setN, hr]⟩
      exact this _ _ _ (by simp [k12, hvs]; omega)
    obtain ⟨h1, h2, h3⟩ := setN_get hset
    obtain ⟨w', hrun, hgq, honly, hsize⟩ := storeCells_only (P := P) (hs r).blk e v.cells.toList (j * sz) 0 cur.toList cur' w (by simpa using k9) (fun c hc => hvo c (by simpa using hc)) (by simpa using hset)
    have hatv : ∀ ent : Ent, ent.at_ (hs r) = (hs r).val.ownBlock → True := fun _ _ => trivial
    have S' := S.turn (w' := w') (e' := .row e sz n (es.set j v)) (hv := hs r) hr (fun k hk hne => honly.block k hk (fun h => hne (by simp [Ent.at_, k7, Value.ownBlock, h]))) honly.os honly.tape honly.output honly.size
      ⟨by simp [k1], fun u hu => by
        rcases List.mem_or_eq_of_mem_set hu with hu | rfl
        · exact k2 u hu
        · exact hvs, fun u hu => by
        rcases List.mem_or_eq_of_mem_set hu with hu | rfl
        · exact k3 u hu
        · exact hvo, ⟨by rw [flat_len (sz := sz) _ (fun u hu => by
          rcases List.mem_or_eq_of_mem_set hu with hu | rfl
          · exact k2 u hu
          · exact hvs)]; simp [k1], .inr ⟨(hs r).blk, cap, cur'.toArray, k7, Nat.zero_le _, hgq, k10, k11, by simp [h1, k12], ?_⟩⟩, k5⟩
      trivial (fun k hk => .inl hk) (fun t s _ => by
        have : (fun q => if q = r then hs r else hs q) = hs := by funext q; split <;> simp_all
        rw [this]) (fun q f _ _ => Ent.sees_eq (by funext q; split <;> simp_all) f)
    · have hfun : (fun q => if q = r then hs r else hs q) = hs := by funext q; split <;> simp_all
      rw [hfun] at S'
      unfold wpList
      rw [if_pos (goes_wanted S hg)]
      refine .inl ?_
      have hex : (execOp a.eval o).run P w = .ok .skip w' := by
        subst hq
        have hv2 : v.cells.size = sz := hvs
        simp only [execOp, ho, hxv, hyv, Instr.storeAt, Instr.sureAddr, Sem.run_bind, Sem.run_pure, Result.andThen_ok, storeVar, run_size hT ht]
        rw [if_neg (by simp [hv2])]
        simp only [Sem.run_pure, Result.andThen_ok, hrun]
      unfold Oper.wp
      rw [hex, Oper.upon_skip, hd]
      have nx := next
      rw [setL_eq] at nx
      refine nx hs _ w' ?_ ?_
      · exact S'
      · exact g.move (by simp) (fun _ _ => rfl)
    · refine List.ext_getElem? fun i => ?_
      rw [flat_set k2 (by omega) hvs]
      rw [List.toList_toArray, List.getElem?_take]
      by_cases hi : i < n * sz
      · rw [if_pos hi, h3 i, Array.length_toList, hvs, ← k13]
        by_cases hc : j * sz ≤ i ∧ i < j * sz + sz
        · rw [if_pos hc, if_pos hc]
        · rw [if_neg hc, if_neg hc, List.getElem?_take, if_pos hi]
      · rw [if_neg hi, if_neg (by omega), List.getElem?_eq_none (by omega)]

/-- A byte of a string. -/
def sidx (s : ByteArray) (i : Int) : Option Int := if 0 ≤ i then (s[i.toNat]?).map (fun b => (b.toNat : Int)) else none
theorem EL.sindex {d t s1 b1 : Nat} {z1 : List Value} {x ix : Operand} {s : ByteArray} {k : IntKind} {i c : Int} (hc : sidx s i = some c) (hT : TOk P T) (hg : goes lops env o.guard = true) (hd : okDst C.n gv o.dst = some d)
    (ho : o.op = .index t x ix) (hx : ev env gv [] x = some (.v (.string s))) (hi : ev env gv [] ix = some (.v (.int k i))) (ht : ti T t = some ⟨s1, b1, z1, .str⟩)
    (next : EL P lops Q C l ((d, some (.v (.int .u8 c))) :: env) gv L G) : EL P lops Q C (o :: l) env gv L G := by
  refine EL.val (s := .v _) hg hd (fun hs a w S g => ⟨?_, trivial⟩) next
  obtain ⟨ud, hk, hru⟩ := run_und hT ht w
  obtain rfl := und_str hk
  unfold sidx at hc
  split at hc
  · rename_i h0
    obtain ⟨b, hb, rfl⟩ := Option.map_eq_some_iff.1 hc
    simp only [execOp, ho, ev_v S g hx, ev_v S g hi, Instr.index, asIntOf, Sem.run_bind, Sem.run_pure, Result.andThen_ok, hru, if_pos h0, hb, SV.val, SV.cval]
  · simp at hc
end
end Go.Proofs.Ytdiclbejalelfaa
