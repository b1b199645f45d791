/- Strings out of bytes, joined; shifts; arrays of the call's own; copy. No condition. -/
import Derived.Test.YtdiclbejalelfaaFwN
import Derived.Laws.BytesString
set_option linter.unusedVariables false
set_option linter.unusedSimpArgs false
namespace Go.Proofs.Ytdiclbejalelfaa
open Go.RowKit
open Rep (R)

/-- The string of some bytes. -/
def strOf (xs : List (IK .u8)) : ByteArray := (xs.map (·.n)).foldl (fun r n => r.push (UInt8.ofNat n.toNat)) ByteArray.empty
def strAdd (a b : ByteArray) : Option ByteArray := if ((a.size + b.size : Nat) : Int) > IntKind.i64.max then none else some (a ++ b)
def ishr (x y : Int) : Option Int := if y < 0 then none else some (x.fdiv (2 ^ (min y.toNat 64)))
def ishl (x y : Int) : Option Int := if y < 0 then none else some (IntKind.i64.wrap (x * 2 ^ (min y.toNat 64)))
def cpy {α : Type} (xs ys : List α) : List α := ys.take xs.length ++ xs.drop ys.length

section
variable {P : Program} {T : Tab} {lops l l' : List Oper} {Q : Exit → Act → World → Prop} {C : Ctx} {env env' : Env} {gv gv' : GV} {L L' : List Ent} {G G' : Ghost} {o : Oper}

theorem EL.strAdd {d t t9 : Nat} {x y : Operand} {a b c : ByteArray} (hc : strAdd a b = some c) (hg : goes lops env o.guard = true) (hd : okDst C.n gv o.dst = some d) (ho : o.op = .binOp .add t x y t9)
    (hx : ev env gv [] x = some (.v (.string a))) (hy : ev env gv [] y = some (.v (.string b))) (next : EL P lops Q C l ((d, some (.v (.string c))) :: env) gv L G) : EL P lops Q C (o :: l) env gv L G := by
  refine EL.val (s := .v _) hg hd (fun hs a w S g => ⟨?_, trivial⟩) next
  unfold Proofs.Ytdiclbejalelfaa.strAdd at hc
  split at hc
  · simp at hc
  · rename_i hne
    obtain rfl := Option.some.inj hc
    simp only [execOp, ho, ev_v S g hx, ev_v S g hy, eqGuard, binOp, Op.stringOp, if_neg hne, SV.val, SV.cval, Sem.run_bind, Sem.run_pure, Result.andThen_ok]
    rfl
theorem EL.shr {d t t9 : Nat} {x y : Operand} {i j q : Int} {k : IntKind} (hq : ishr i j = some q) (hg : goes lops env o.guard = true) (hd : okDst C.n gv o.dst = some d) (ho : o.op = .binOp .shr t x y t9)
    (hx : ev env gv [] x = some (.v (.int .i64 i))) (hy : ev env gv [] y = some (.v (.int k j))) (next : EL P lops Q C l ((d, some (.v (.int .i64 q))) :: env) gv L G) : EL P lops Q C (o :: l) env gv L G := by
  refine EL.val (s := .v _) hg hd (fun hs a w S g => ⟨?_, trivial⟩) next
  unfold ishr at hq
  split at hq
  · simp at hq
  · rename_i hne
    obtain rfl := Option.some.inj hq
    simp [execOp, ho, ev_v S g hx, ev_v S g hy, eqGuard, binOp, Op.shift, hne, SV.val, SV.cval, IntKind.bits]
theorem EL.shl {d t t9 : Nat} {x y : Operand} {i j q : Int} {k : IntKind} (hq : ishl i j = some q) (hg : goes lops env o.guard = true) (hd : okDst C.n gv o.dst = some d) (ho : o.op = .binOp .shl t x y t9)
    (hx : ev env gv [] x = some (.v (.int .i64 i))) (hy : ev env gv [] y = some (.v (.int k j))) (next : EL P lops Q C l ((d, some (.v (.int .i64 q))) :: env) gv L G) : EL P lops Q C (o :: l) env gv L G := by
  refine EL.val (s := .v _) hg hd (fun hs a w S g => ⟨?_, trivial⟩) next
  unfold ishl at hq
  split at hq
  · simp at hq
  · rename_i hne
    obtain rfl := Option.some.inj hq
    simp [execOp, ho, ev_v S g hx, ev_v S g hy, eqGuard, binOp, Op.shift, hne, SV.val, SV.cval, IntKind.bits]

/-- A string made of bytes. -/
theorem EL.bytesStr {d s t n c b1 s1 b2 s2 b3 s3 : Nat} {x : Operand} {xs : List (IK .u8)} {A : Option Addr} {z1 z2 z3 : List Value} (hxs : R G xs (.slice A n c)) (hT : TOk P T) (hg : goes lops env o.guard = true) (hd : okDst C.n gv o.dst = some d)
    (ho : o.op = .convert s t x) (hx : ev env gv [] x = some (.v (.slice A n c))) (hs : ti T s = some ⟨s1, b1, z1, .slice s3⟩) (ht : ti T t = some ⟨s2, b2, z2, .str⟩) (hte : ti T s3 = some ⟨1, b3, z3, .int .u8⟩)
    (next : EL P lops Q C l ((d, some (.v (.string (strOf xs)))) :: env) gv L G) : EL P lops Q C (o :: l) env gv L G := by
  refine EL.val (s := .v _) hg hd (fun hh a w S g => ⟨?_, trivial⟩) next
  obtain ⟨us, hks, hrs⟩ := run_und hT hs w
  obtain rfl := und_slice hks
  obtain ⟨ut, hkt, hrt⟩ := run_und hT ht w
  obtain rfl := und_str hkt
  obtain ⟨ue, hke, hre⟩ := run_und hT hte w
  obtain rfl := und_int hke
  obtain ⟨A', c', he, hl, hel⟩ := hxs
  simp only [Value.slice.injEq] at he
  obtain ⟨rfl, rfl, rfl⟩ := he
  have hmain : (Conv.bytesToString (.slice A xs.length c)).run P w = .ok (.string (strOf xs)) w := by
    cases A with
    | none =>
      have h0 : xs = [] := by
        cases xs with
        | nil => rfl
        | cons y ys => obtain ⟨b, o', hA, _⟩ := hel (by simp); simp at hA
      subst h0
      rfl
    | some ad =>
      refine run_bytesToString w _ _ _ _ ?_
      have hload : ∀ b o', ad = ⟨b, o', none⟩ → (∀ j x, xs[j]? = some x → ∃ u, R G x u ∧ CellsAt G b (o' + j * Rep.sz (IK .u8)) u) → (loadCells ad xs.length).run P w = .ok ((xs.map (·.n)).map (Value.int .u8)).toArray w := by
        rintro b o' rfl hc
        have := run_load_cells (P := P) (w := w) (g := b) (o := o') (r := (xs.map (·.n)).map (Value.int .u8)) (fun j v hj => by
          rw [List.map_map, List.getElem?_map] at hj
          obtain ⟨y, hy, rfl⟩ := Option.map_eq_some_iff.1 hj
          obtain ⟨u, hu, hcu⟩ := hc j y hy
          have hu' : u = .int .u8 y.n := hu
          subst hu'
          have := S.ok _ _ (hcu 0 (.int .u8 y.n) rfl)
          rwa [Nat.add_zero, show j * Rep.sz (IK .u8) = j from Nat.mul_one j] at this)
        simpa using this
      cases hx0 : xs with
      | nil => subst hx0; rfl
      | cons y ys =>
        rw [← hx0]
        obtain ⟨b, o', hA, hc⟩ := hel (by rw [hx0]; simp)
        exact hload b o' (Option.some.inj hA) hc
  simp only [execOp, ho, ev_v S g hx, convert, Sem.run_bind, hrs, hrt, hre, Result.andThen_ok, SV.val, SV.cval]
  cases A with
  | none => simp only [Sem.run_bind, hre, Result.andThen_ok, hmain, Sem.run_pure]
  | some ad => simp only [Sem.run_bind, hre, Result.andThen_ok, hmain, Sem.run_pure]

/-! ### arrays of the call's own -/
theorem EL.allocArr {α : Type} [Rep α] {z0 : α} {z : Value} {d t e n sz asz by_ : Nat} {zs : List Value} (hz0 : R G z0 z) (hT : TOk P T) (hg : goes lops env o.guard = true) (hd : okDst C.n gv o.dst = some d)
    (ho : o.op = .alloc t) (ht : ti T t = some ⟨asz, by_, zs, .arr n e⟩) (hzs : zs = flat (List.replicate n z)) (hsz : Rep.sz α = sz) (hn : Nat.ble n 4294967296 = true)
    (next : ∀ es, Els G (List.replicate n z0) es → EL P lops Q C l ((d, some (.p (len' L) 0)) :: env) gv (Proofs.Ytdiclbejalelfaa.app L (.row t sz n es)) G) : EL P lops Q C (o :: l) env gv L G := by
  intro hs a w S g
  obtain ⟨hd1, hd2, hd3⟩ := okDst_eq hd
  obtain ⟨zv, hzc, hzr⟩ := run_zero hT ht w
  have hn' : n ≤ 4294967296 := Nat.le_of_ble_eq_true hn
  have hes : Els G (List.replicate n z0) (List.replicate n z) := by
    clear next ht hzs hn hn' hzc hzr
    induction n with
    | zero => exact .nil
    | succ q ih => exact .cons hz0 ih
  have hsz' : ∀ u ∈ List.replicate n z, u.cells.size = sz := fun u hu => by rw [(List.mem_replicate.1 hu).2, Rep.size hz0, hsz]
  have hfl := flat_len (List.replicate n z) hsz'
  rw [List.length_replicate] at hfl
  unfold wpList
  rw [if_pos (goes_wanted S hg)]
  refine .inl ?_
  have hcells : zv.cells = (flat (List.replicate n z)).toArray := Array.toList_inj.1 (by rw [hzc]; exact hzs)
  have hex : (execOp a.eval o).run P w = .ok (.value (.pointer (some ⟨w.heap.size, 0, none⟩))) (w.alloc (.cells (flat (List.replicate n z)).toArray t)) := by
    simp only [execOp, ho, Instr.alloc, Sem.run_bind, hzr, Result.andThen_ok, newVar, newRow, run_newObj, Sem.run_pure, hcells]
    rfl
  unfold Oper.wp
  rw [hex, Oper.upon_value, hd1]
  have hrow := World.ownsRow_lit (base := 0) (e := t) (size := sz) w (flat (List.replicate n z)).toArray n (Nat.zero_le _) (by unfold maxLen; omega) (by simpa using hfl)
  have S' := S.alloc (.cells (flat (List.replicate n z)).toArray t) (.row t sz n (List.replicate n z)) (.slice (some ⟨w.heap.size, 0, none⟩) n n) trivial
    ⟨by simp, hsz', fun u hu => by rw [(List.mem_replicate.1 hu).2]; exact Rep.one hz0, hrow, fun k hk => by simp [Value.ownBlock] at hk; exact hk.symm⟩
    (fun k hk => by simp [Ent.at_, Value.ownBlock] at hk; exact hk.symm)
  have nx := next _ hes
  rw [len'_eq, app_eq] at nx
  have S2 := S'.put hd2 (s := .p L.length 0) (by simp [SV.lt, SV.clt])
  refine nx _ _ _ ?_ ((g.move (L' := L ++ [_]) (hs' := fun r => if r = L.length then ⟨w.heap.size, .slice (some ⟨w.heap.size, 0, none⟩) n n⟩ else hs r) (by simp) (fun r hr => by simp [Nat.ne_of_lt hr])).put hd3 _)
  simpa [SV.val, SV.cval] using S2
theorem EL.indexArr {α : Type} [Rep α] {xs : List α} {d t r e et sz n s1 b1 by_ : Nat} {x ix : Operand} {es : List Value} {z1 z2 : List Value} {kd : TK} {k : IntKind} {i : Int} (h0 : 0 ≤ i) (h1 : i < xs.length) (hes : Els G xs es) (hT : TOk P T) (hg : goes lops env o.guard = true) (hd : okDst C.n gv o.dst = some d)
    (ho : o.op = .indexAddr t x ix) (hx : ev env gv [] x = some (.p r 0)) (hi : ev env gv [] ix = some (.v (.int k i))) (hr : nth L r = some (.row et sz n es)) (ht : ti T t = some ⟨s1, b1, z1, .arr n e⟩) (hte : ti T e = some ⟨sz, by_, z2, kd⟩)
    (next : EL P lops Q C l ((d, some (.p r (i.toNat * sz))) :: env) gv L G) : EL P lops Q C (o :: l) env gv L G := by
  refine EL.val (s := .p r (i.toNat * sz)) hg hd (fun hs a w S g => ⟨?_, ?_⟩) next
  · obtain ⟨ud, hk, hru⟩ := run_und hT ht w
    obtain rfl := und_arr hk
    rw [nth_eq] at hr
    have hlen : xs.length = n := by rw [← (S.holds r _ hr).1.1, hes.len]
    rw [hlen] at h1
    have hxv : a.eval x = .pointer (some ⟨(hs r).blk, 0, none⟩) := (ev_val S g (fun _ h => absurd h (by simp)) hx).1
    simp only [execOp, ho, hxv, ev_v S g hi, Instr.indexAt, asIntOf, Instr.sureAddr, Sem.run_bind, Sem.run_pure, Result.andThen_ok, hru, SV.val, SV.cval]
    rw [if_pos ⟨h0, h1⟩, Sem.run_bind, run_size hT hte]
    simp only [Sem.run_pure, Result.andThen_ok, add_none, Nat.zero_add]
  · rw [nth_eq] at hr
    exact (List.getElem?_eq_some_iff.1 hr).1
theorem EL.updA {α : Type} [Rep α] {xs zs : List α} {i : Int} {y : α} {t r e sz n by_ q : Nat} {x yo : Operand} {es : List Value} {z : List Value} {k : TK} {v : Value} (hp : Proofs.Ytdiclbejalelfaa.upd xs i y = some zs) (hes : Els G xs es) (hy : R G y v)
    (hT : TOk P T) (hg : goes lops env o.guard = true) (hd : o.dst = none)
    (ho : o.op = .store t x yo) (hx : ev env gv [] x = some (.p r q)) (hq : q = i.toNat * sz) (hyo : ev env gv [] yo = some (.v v)) (hr : nth L r = some (.row e sz n es)) (ht : ti T t = some ⟨sz, by_, z, k⟩) (hsz : Rep.sz α = sz)
    (next : ∀ es', Els G zs es' → EL P lops Q C l env gv (setL L r (.row e sz n es')) G) : EL P lops Q C (o :: l) env gv L G := by
  intro hs a w S g
  have hr' := hr
  rw [nth_eq] at hr'
  have hlen : xs.length = n := by rw [← (S.holds r _ hr').1.1, hes.len]
  obtain ⟨h0, h1, rfl⟩ := upd_some hp
  exact EL.storeRow (j := i.toNat) (by omega) hT hg hd ho hx hq hyo hr ht ((Rep.size hy).trans hsz) (Rep.one hy) (next _ (All2.set (j := i.toNat) hes hy)) hs a w S g
/-- The whole of an array as a slice: it is handed over. -/
theorem EL.sliceArr {α : Type} [Rep α] {xs : List α} {d t r e sz n s1 b1 b2 : Nat} {x : Operand} {es : List Value} {z1 z2 : List Value} {kd : TK} (hes : Els G xs es) (hsz : Rep.sz α = sz) (hT : TOk P T) (hg : goes lops env o.guard = true) (hd : okDst C.n gv o.dst = some d) (hng : noG gv = true)
    (ho : o.op = .slice t x none none none) (hx : ev env gv [] x = some (.p r 0)) (hr : nth L r = some (.row t sz n es)) (ht : ti T t = some ⟨s1, b1, z1, .arr n e⟩) (hte : ti T e = some ⟨sz, b2, z2, kd⟩)
    (next : ∀ blk val A c G', GLe G G' → R G' xs (.slice A xs.length c) → EL P lops Q C l ((d, some (.v (.slice A xs.length c))) :: killE r blk val env) gv (setL (killR r blk val L) r .gone) G') : EL P lops Q C (o :: l) env gv L G := by
  intro hs a w S g
  obtain ⟨hd1, hd2, hd3⟩ := okDst_eq hd
  rw [nth_eq] at hr
  obtain ⟨k1, k2, k3, k4, k5⟩ := (S.holds r _ hr).1
  have hn : n = xs.length := by rw [← k1, hes.len]
  obtain ⟨G', h1, h2, S'⟩ := S.pubRow hr hes hsz
  have hxv : a.eval x = .pointer (some ⟨(hs r).blk, 0, none⟩) := (ev_val S g (fun _ h => absurd h (by simp)) hx).1
  have S2 := S'.kill r
  have e1 : killR r (hs r).blk (hs r).val (L.set r .gone) = (killR r (hs r).blk (hs r).val L).set r .gone := by
    refine List.ext_getElem? fun q => ?_
    rw [killR_get, List.getElem?_set, List.getElem?_set, killR_len]
    split
    · split <;> rfl
    · rw [killR_get]
  rw [e1] at S2
  obtain ⟨ud, hk, hru⟩ := run_und hT ht w
  obtain rfl := und_arr hk
  have hR : R G' xs (.slice (some ⟨(hs r).blk, 0, none⟩) xs.length xs.length) := by
    obtain ⟨A, cp, he, hl, hel⟩ := h2
    refine ⟨_, _, rfl, Nat.le_refl _, fun hp => ⟨(hs r).blk, 0, rfl, ?_⟩⟩
    obtain ⟨b, o', hA, hc⟩ := hel hp
    rcases k4.2 with ⟨_, k7⟩ | ⟨gq, cap, cur, k7, _⟩
    · omega
    · have hb : gq = (hs r).blk := k5 gq (by rw [k7]; rfl)
      rw [k7] at he
      simp only [Value.slice.injEq] at he
      rw [← he.1] at hA
      simp only [Option.some.injEq, Addr.mk.injEq] at hA
      obtain ⟨rfl, rfl, _⟩ := hA
      rw [← hb]; exact hc
  have hex : (execOp a.eval o).run P w = .ok (.value (.slice (some ⟨(hs r).blk, 0, none⟩) xs.length xs.length)) w := by
    simp only [execOp, ho, hxv, Option.map_none, Instr.sliceAt, Sem.run_bind, hru, Result.andThen_ok, Instr.sureAddr, Sem.run_pure, Instr.sliceBounds, run_size hT hte, Nat.sub_zero, Nat.zero_mul, hn, add_none, Nat.add_zero]
    split <;> rfl
  unfold wpList
  rw [if_pos (goes_wanted S hg)]
  refine .inl ?_
  unfold Oper.wp
  rw [hex, Oper.upon_value, hd1]
  have nx := next (hs r).blk (hs r).val _ _ G' h1 hR hs (a.put (some d) (.slice (some ⟨(hs r).blk, 0, none⟩) xs.length xs.length)) w
  rw [setL_eq] at nx
  exact nx (S2.put hd2 (s := .v _) trivial) ((g.put hd3 _).any hng)
/-! ### copy -/
theorem sl_cells {α : Type} [Rep α] {ys : List α} {A : Option Addr} {n c sz : Nat} {w : World} (hys : R G ys (.slice A n c)) (hsz0 : Rep.sz α = sz) (hok : ∀ x v, G x = some v → w.cell? x = some v) :
    n = ys.length ∧ (0 < ys.length → ∃ b o, A = some ⟨b, o, none⟩) ∧ ∃ fs, Els G ys fs ∧ fs.length = ys.length ∧ (∀ u ∈ fs, u.cells.size = sz) ∧ (∀ u ∈ fs, ∀ c ∈ u.cells, c.oneCell' = true) ∧ ∀ b o', A = some ⟨b, o', none⟩ → ∀ j u, (flat fs)[j]? = some u → w.cell? ⟨b, o' + j, none⟩ = some u := by
  obtain ⟨A', c', he, hl, hel⟩ := hys
  simp only [Value.slice.injEq] at he
  obtain ⟨rfl, rfl, rfl⟩ := he
  refine ⟨rfl, fun hp => by obtain ⟨b, o, hA, _⟩ := hel hp; exact ⟨b, o, hA⟩, ?_⟩
  have key : ∀ (zs : List α) (k : Nat), (∀ b o', A = some ⟨b, o', none⟩ → ∀ j x, zs[j]? = some x → ∃ u, R G x u ∧ CellsAt G b (o' + (k + j) * sz) u) → (zs ≠ [] → ∃ b o', A = some ⟨b, o', none⟩) →
      ∃ fs, Els G zs fs ∧ fs.length = zs.length ∧ (∀ u ∈ fs, u.cells.size = sz) ∧ (∀ u ∈ fs, ∀ c ∈ u.cells, c.oneCell' = true) ∧ ∀ b o', A = some ⟨b, o', none⟩ → ∀ j u, (flat fs)[j]? = some u → w.cell? ⟨b, o' + k * sz + j, none⟩ = some u := by
    intro zs
    induction zs with
    | nil => intro k _ _; exact ⟨[], .nil, rfl, by simp, by simp, fun b o' _ j u h => by simp [flat] at h⟩
    | cons y zs ih =>
      intro k h hne
      obtain ⟨b, o', hA⟩ := hne (by simp)
      obtain ⟨u, hu, hc⟩ := h b o' hA 0 y rfl
      obtain ⟨fs, h1, h2, h3, h4, h5⟩ := ih (k + 1) (fun b o' hA j x hx => by
        obtain ⟨u, hu, hc⟩ := h b o' hA (j + 1) x hx
        exact ⟨u, hu, by rw [show k + 1 + j = k + (j + 1) by omega]; exact hc⟩) (fun _ => ⟨b, o', hA⟩)
      have husz : u.cells.size = sz := by rw [Rep.size hu, hsz0]
      refine ⟨u :: fs, .cons hu h1, by simp [h2], fun x hx => ?_, fun x hx => ?_, fun b1 o1 hA1 j x hj => ?_⟩
      · rcases List.mem_cons.1 hx with rfl | hx
        · exact husz
        · exact h3 x hx
      · rcases List.mem_cons.1 hx with rfl | hx
        · exact Rep.one hu
        · exact h4 x hx
      · rw [hA] at hA1
        injection hA1 with hA1
        injection hA1 with hb1 ho1
        subst hb1; subst ho1
        have hj' : (u.cells.toList ++ flat fs)[j]? = some x := hj
        rcases Nat.lt_or_ge j u.cells.toList.length with hlt | hge
        · rw [List.getElem?_append_left hlt] at hj'
          have := hok _ _ (hc j x hj')
          rwa [Nat.add_zero] at this
        · rw [List.getElem?_append_right hge, Array.length_toList, husz] at hj'
          rw [Array.length_toList, husz] at hge
          have := h5 b o' hA _ x hj'
          rwa [show o' + (k + 1) * sz + (j - sz) = o' + k * sz + j by rw [Nat.succ_mul]; omega] at this
  obtain ⟨fs, h1, h2, h3, h4, h5⟩ := key ys 0 (fun b o' hA j x hx => by
    have hp : 0 < ys.length := by have := (List.getElem?_eq_some_iff.1 hx).1; omega
    obtain ⟨b1, o1, hA1, hel⟩ := hel hp
    rw [hA] at hA1
    injection hA1 with hA1
    injection hA1 with hb1 ho1
    subst hb1; subst ho1
    rw [Nat.zero_add, ← hsz0]
    exact hel j x hx) (fun hne => by
    obtain ⟨b1, o1, hA1, _⟩ := hel (List.length_pos_iff.2 hne)
    exact ⟨b1, o1, hA1⟩)
  exact ⟨fs, h1, h2, h3, h4, fun b o' hA j u hj => by have := h5 b o' hA j u hj; simpa using this⟩

theorem setN_some : ∀ (m : Nat) (vs l : List Value), m + vs.length ≤ l.length → ∃ r, setN m vs l = some r := by
  intro m
  induction m with
  | zero =>
    intro vs
    induction vs with
    | nil => intro l _; cases l <;> exact ⟨_, rfl⟩
    | cons v vs ih =>
      intro l hl
      cases l with
      | nil => simp at hl
      | cons x l =>
        obtain ⟨r, hr⟩ := ih l (by simp at hl; omega)
        exact ⟨v :: r, by simp only [setN, hr]⟩
  | succ m ihm =>
    intro vs l hl
    cases l with
    | nil => simp at hl
    | cons x l =>
      obtain ⟨r, hr⟩ := ihm vs l (by simp at hl; omega)
      exact ⟨x :: r, by simp only [setN, hr]⟩
theorem flat_take {sz : Nat} {es : List Value} (h : ∀ u ∈ es, u.cells.size = sz) (m : Nat) : flat (es.take m) = (flat es).take (m * sz) := by
  induction es generalizing m with
  | nil => simp [flat]
  | cons e es ih =>
    have he : e.cells.toList.length = sz := by rw [Array.length_toList]; exact h e List.mem_cons_self
    cases m with
    | zero => simp [flat]
    | succ m =>
      have := ih (fun u hu => h u (List.mem_cons_of_mem _ hu)) m
      show e.cells.toList ++ flat (es.take m) = (e.cells.toList ++ flat es).take ((m + 1) * sz)
      rw [this, show (m + 1) * sz = sz + m * sz by rw [Nat.succ_mul, Nat.add_comm], List.take_append, he, Nat.add_sub_cancel_left, List.take_of_length_le (l := e.cells.toList) (by rw [he]; exact Nat.le_add_right _ _)]
theorem flat_drop {sz : Nat} {es : List Value} (h : ∀ u ∈ es, u.cells.size = sz) (m : Nat) : flat (es.drop m) = (flat es).drop (m * sz) := by
  induction es generalizing m with
  | nil => simp [flat]
  | cons e es ih =>
    have he : e.cells.toList.length = sz := by rw [Array.length_toList]; exact h e List.mem_cons_self
    cases m with
    | zero => simp [flat]
    | succ m =>
      have := ih (fun u hu => h u (List.mem_cons_of_mem _ hu)) m
      show flat (es.drop m) = (e.cells.toList ++ flat es).drop ((m + 1) * sz)
      rw [this, show (m + 1) * sz = sz + m * sz by rw [Nat.succ_mul, Nat.add_comm], List.drop_append, he, Nat.add_sub_cancel_left, List.drop_eq_nil_of_le (as := e.cells.toList) (by rw [he]; exact Nat.le_add_right _ _), List.nil_append]
theorem All2.take {α β : Type} {P : α → β → Prop} {l : List α} {m : List β} (h : All2 P l m) : ∀ q, All2 P (l.take q) (m.take q) := by
  induction h with
  | nil => intro q; simp; exact .nil
  | cons h _ ih => intro q; cases q with
    | zero => exact .nil
    | succ q => exact .cons h (ih q)
theorem All2.drop {α β : Type} {P : α → β → Prop} {l : List α} {m : List β} (h : All2 P l m) : ∀ q, All2 P (l.drop q) (m.drop q) := by
  induction h with
  | nil => intro q; simp; exact .nil
  | cons h t ih => intro q; cases q with
    | zero => exact .cons h t
    | succ q => exact ih q

theorem EL.copy {α : Type} [Rep α] {xs ys : List α} {d r e sz n by_ t t2 c m b1 s1 : Nat} {s x : Operand} {es : List Value} {A : Option Addr} {z z1 : List Value} {kd : TK} (hes : Els G xs es) (hys : R G ys (.slice A m c)) (hT : TOk P T) (hg : goes lops env o.guard = true) (hd : okDst C.n gv o.dst = some d)
    (ho : o.op = .call ⟨.builtin .copy, #[s, x], #[t, t2]⟩) (hs : ev env gv [] s = some (.row r)) (hx : ev env gv [] x = some (.v (.slice A m c))) (hr : nth L r = some (.row e sz n es)) (hn : n = xs.length)
    (ht : ti T t = some ⟨s1, b1, z1, .slice e⟩) (hte : ti T e = some ⟨sz, by_, z, kd⟩) (hsz0 : Rep.sz α = sz)
    (next : ∀ es', Els G (cpy xs ys) es' → EL P lops Q C l ((d, some (.v (.int .i64 ((min ys.length xs.length : Nat) : Int)))) :: env) gv (setL L r (.row e sz (cpy xs ys).length es')) G) : EL P lops Q C (o :: l) env gv L G := by
  intro hh a w S g
  obtain ⟨hd1, hd2, hd3⟩ := okDst_eq hd
  rw [nth_eq] at hr
  have hlt : r < L.length := (List.getElem?_eq_some_iff.1 hr).1
  obtain ⟨k1, k2, k3, k4, k5⟩ := (S.holds r _ hr).1
  obtain ⟨hm, hA, fs, f1, f2, f3, f4, f5⟩ := sl_cells hys hsz0 S.ok
  obtain ⟨ud, hk, hru⟩ := run_und hT ht w
  obtain rfl := und_slice hk
  have hlen : (cpy xs ys).length = n := by simp only [cpy, List.length_append, List.length_take, List.length_drop]; omega
  have hcp : Els G (cpy xs ys) (fs.take n ++ es.drop fs.length) := by
    unfold cpy
    rw [f2, hn]
    exact (All2.take f1 _).app (All2.drop hes _)
  have hsz2 : ∀ u ∈ fs.take n ++ es.drop fs.length, u.cells.size = sz := fun u hu => by
    rcases List.mem_append.1 hu with hu | hu
    · exact f3 u (List.mem_of_mem_take hu)
    · exact k2 u (List.mem_of_mem_drop hu)
  have hone2 : ∀ u ∈ fs.take n ++ es.drop fs.length, ∀ c ∈ u.cells, c.oneCell' = true := fun u hu => by
    rcases List.mem_append.1 hu with hu | hu
    · exact f4 u (List.mem_of_mem_take hu)
    · exact k3 u (List.mem_of_mem_drop hu)
  have hsl : a.eval s = (hh r).val := ev_row S g hs
  have hxv := ev_v S g hx
  unfold wpList
  rw [if_pos (goes_wanted S hg)]
  refine .inl ?_
  have nx := next _ hcp
  rw [hlen, setL_eq] at nx
  have hfun : (fun q => if q = r then hh r else hh q) = hh := by funext q; split <;> simp_all
  have hmin : min ys.length xs.length = min fs.length n := by rw [f2, hn]
  have hfc : A = none ∨ min ys.length xs.length = 0 ∨ ∃ b o', A = some ⟨b, o', none⟩ := by
    by_cases hp : 0 < ys.length
    · obtain ⟨b, o', h⟩ := hA hp; exact .inr (.inr ⟨b, o', h⟩)
    · exact .inr (.inl (by omega))
  have hcells : (Builtin.firstCells sz (min ys.length xs.length) (.slice A m c)).run P w = .ok (flat (fs.take n)).toArray w := by
    have hl : (flat (fs.take n)).length = min ys.length xs.length * sz := by rw [flat_len (sz := sz) _ (fun u hu => f3 u (List.mem_of_mem_take hu)), List.length_take, hmin, Nat.min_comm]
    by_cases h0 : min ys.length xs.length = 0
    · have : flat (fs.take n) = [] := List.eq_nil_of_length_eq_zero (by rw [hl, h0]; simp)
      rw [this, h0]
      cases A with
      | none => rfl
      | some ad => simp [Builtin.firstCells, loadCells, Sem.run_pure]; rfl
    · obtain ⟨b, o', rfl⟩ := hA (by omega)
      have := run_load_cells (P := P) (w := w) (g := b) (o := o') (r := flat (fs.take n)) (fun j v hj => f5 b o' rfl j v (by rw [flat_take f3, List.getElem?_take] at hj; split at hj; exact hj; simp at hj))
      rw [hl] at this
      simpa [Builtin.firstCells] using this
  rcases k4.2 with ⟨k6, k7⟩ | ⟨gq, cap, cur, k6, k8, k9, k10, k11, k12, k13⟩
  · -- the row is nil
    have hx0 : xs = [] := List.eq_nil_of_length_eq_zero (by omega)
    have hes0 : es = [] := List.eq_nil_of_length_eq_zero (by omega)
    have he' : fs.take n ++ es.drop fs.length = es := by rw [hes0, k7]; simp
    have hex : (execOp a.eval o).run P w = .ok (.value (.int .i64 ((min ys.length xs.length : Nat) : Int))) w := by
      have hc2 := hcells
      rw [hm] at hxv hc2
      have hsub : min ys.length xs.length = 0 := by rw [hx0]; simp
      rw [hsub] at hc2 ⊢
      have hcs : flat (fs.take n) = [] := by rw [k7]; simp [flat]
      rw [hcs] at hc2
      simp only [execOp, ho, resolve, invoke, builtin, Sem.run_bind, Sem.run_pure, Result.andThen_ok, List.map_toArray, List.map_cons, List.map_nil, hsl, k6, hxv, Builtin.copy_, hru, Builtin.lenOf, run_size hT hte]
      simp only [List.getElem?_toArray, List.getElem?_cons_zero, List.getElem?_cons_succ, Sem.run_bind, hru, Result.andThen_ok, Sem.run_pure, Builtin.lenOf, run_size hT hte]
      rw [show Nat.min ys.length 0 = 0 from Nat.min_zero _]
      simp [hc2, goInt]
    unfold Oper.wp
    rw [hex, Oper.upon_value, hd1]
    rw [he'] at nx
    have hset : L.set r (.row e sz n es) = L := by
      refine List.ext_getElem? fun q => ?_
      rw [List.getElem?_set]
      split
      · rename_i hq; subst hq; exact hr.symm
      · rfl
    rw [hset] at nx
    exact nx hh _ w (S.put hd2 (s := .v _) trivial) (g.put hd3 _)
  · have hb : gq = (hh r).blk := k5 gq (by rw [k6]; rfl)
    subst hb
    have hfl := flat_len es k2
    rw [k1] at hfl
    have hcb : n * sz ≤ cap * sz := Nat.mul_le_mul_right _ k10
    have hl : (flat (fs.take n)).length = min fs.length n * sz := by rw [flat_len (sz := sz) _ (fun u hu => f3 u (List.mem_of_mem_take hu)), List.length_take, Nat.min_comm]
    have hle : (flat (fs.take n)).length ≤ n * sz := by rw [hl]; exact Nat.mul_le_mul_right _ (Nat.min_le_right _ _)
    obtain ⟨cur', hset⟩ := setN_some 0 (flat (fs.take n)) cur.toList (by simp [k12]; omega)
    obtain ⟨h1, h2, h3⟩ := setN_get hset
    obtain ⟨w', hrun, hgq, honly, hsize⟩ := storeCells_only (P := P) (hh r).blk e (flat (fs.take n)) 0 0 cur.toList cur' w (by simpa using k9) (flat_one (fun u hu => f4 u (List.mem_of_mem_take hu))) (by simpa using hset)
    have S' := S.turn (w' := w') (e' := .row e sz n (fs.take n ++ es.drop fs.length)) (hv := hh r) hr (fun k hk hne => honly.block k hk (fun h => hne (by simp [Ent.at_, k6, Value.ownBlock, h]))) honly.os honly.tape honly.output honly.size
      ⟨by rw [hcp.len, hlen] , hsz2, hone2, ⟨by rw [flat_len _ hsz2, hcp.len, hlen], .inr ⟨(hh r).blk, cap, cur'.toArray, k6, Nat.zero_le _, hgq, k10, k11, by simp [h1, k12], ?_⟩⟩, k5⟩
      trivial (fun k hk => .inl hk) (fun t s _ => by rw [hfun]) (fun q f _ _ => Ent.sees_eq hfun f)
    · rw [hfun] at S'
      have hex : (execOp a.eval o).run P w = .ok (.value (.int .i64 ((min ys.length xs.length : Nat) : Int))) w' := by
        have hc2 := hcells
        rw [hm] at hxv hc2
        simp only [execOp, ho, resolve, invoke, builtin, Sem.run_bind, Sem.run_pure, Result.andThen_ok, List.map_toArray, List.map_cons, List.map_nil, hsl, k6, hxv, Builtin.copy_]
        simp only [List.getElem?_toArray, List.getElem?_cons_zero, List.getElem?_cons_succ, Sem.run_bind, hru, Result.andThen_ok, Sem.run_pure, Builtin.lenOf, run_size hT hte]
        rw [show Nat.min ys.length n = min ys.length xs.length by rw [hn]]
        simp only [hc2, Result.andThen_ok, hrun, goInt]
      unfold Oper.wp
      rw [hex, Oper.upon_value, hd1]
      exact nx hh _ w' (S'.put hd2 (s := .v _) trivial) ((g.move (by simp) (fun _ _ => rfl)).put hd3 _)
    · refine List.ext_getElem? fun i => ?_
      rw [List.toList_toArray, List.getElem?_take, flat_app, flat_drop k2]
      by_cases hi : i < n * sz
      · rw [if_pos hi, h3 i]
        have hge : ∀ q : Nat, q < cap * sz → True := fun _ _ => trivial
        by_cases hc : i < (flat (fs.take n)).length
        · rw [if_pos ⟨Nat.zero_le _, by omega⟩, List.getElem?_append_left hc, Nat.sub_zero]
        · rw [if_neg (by omega), List.getElem?_append_right (by omega), List.getElem?_drop]
          have hfn : min fs.length n = fs.length := by
            rcases Nat.le_total fs.length n with h | h
            · exact Nat.min_eq_left h
            · rw [Nat.min_eq_right h] at hl; omega
          rw [hl, hfn] at hc ⊢
          rw [show fs.length * sz + (i - fs.length * sz) = i by omega, ← k13, List.getElem?_take, if_pos hi]
      · rw [if_neg hi, List.getElem?_eq_none]
        rw [List.length_append, hl, List.length_drop, hfl]
        rcases Nat.le_total fs.length n with h | h
        · rw [Nat.min_eq_left h]; have := Nat.mul_le_mul_right sz h; omega
        · rw [Nat.min_eq_right h]; have := Nat.mul_le_mul_right sz h; omega
end
end Go.Proofs.Ytdiclbejalelfaa
namespace Go.Proofs.Ytdiclbejalelfaa
open Go.RowKit
open Rep (R)
theorem EX.forget {Q : Exit → Act → World → Prop} {C : Ctx} {env : Env} {L : List Ent} {G : Ghost} {x : Exit} (d : Nat) (k : EX Q x C ((d, none) :: env) L G) : EX Q x C env L G := fun hs a w S => k hs a w (S.weaken (fun t s h => by
  simp only [find] at h
  split at h
  · simp at h
  · exact h))
theorem Sl.none_nil {α : Type} [Rep α] {G : Ghost} {xs : List α} {n c : Nat} (h : R G xs (.slice none n c)) : xs = [] := by
  obtain ⟨A, c', he, hl, hel⟩ := h
  cases xs with
  | nil => rfl
  | cons x xs =>
    obtain ⟨b, o, hA, _⟩ := hel (by simp)
    simp only [Value.slice.injEq] at he
    rw [hA] at he
    simp at he
end Go.Proofs.Ytdiclbejalelfaa
