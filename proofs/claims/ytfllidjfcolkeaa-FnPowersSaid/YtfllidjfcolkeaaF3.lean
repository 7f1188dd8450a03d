/- F3: the framework: a typed evaluator over the program form, with its soundness, by parts. -/
import Derived.Test.YtfllidjfcolkeaaF2
import Derived.IntWalk
import Derived.Control
namespace Go.Fw
open Go

section mem
variable {P : Program} {o : Oper} {w0 : World} {U : Nat → Prop} {S : Own} {a : Act} {w : World} {V : Nat → Prop} {μ : Mu} {slots : Nat → AV} {objs : Objs} {β : Type} {y : β}

theorem wrap_small {n : Int} (h0 : 0 ≤ n) (h : n ≤ 9223372036854775807) : IntKind.i64.wrap n = n := IntWalk.i64_in n ⟨by omega, h⟩

theorem evMakeSlice_ok (R : RelM w0 U S ⟨slots, objs⟩ a w V μ) {T : Tys} (hT : TOk P T) {t : TypeId} {p q : AV} {vp vq : Value} {id : Nat} {k : AV → Objs → Option β}
    (hp : AVR w V μ objs p vp) (hq : AVR w V μ objs q vq) (h : evMakeSlice T objs t p q id k = some y) :
    OpM w0 U S slots a (fun w => (Instr.makeSlice t vp vq).run P w) w (fun av objs' => k av objs' = some y) := by
  unfold evMakeSlice at h
  split at h <;> try (cases h; done)
  rename_i ti k1 n k2 m hti
  have e1 : vp = .int k1 n := hp.one.2
  have e2 : vq = .int k2 m := hq.one.2
  subst e1 e2
  obtain ⟨_, _, _, d, _, _, _, _, _, _, hu, hk⟩ := hT _ _ hti
  split at h <;> try (cases h; done)
  rename_i e hke
  rw [hke] at hk
  rw [show d = .slice e from hk] at hu
  split at h <;> try (cases h; done)
  rename_i te hte
  obtain ⟨info, z, zs, d', hi, hz, hsz, hby, hzs, hiv, hu', hk'⟩ := hT _ _ hte
  split at h <;> try (cases h; done)
  rename_i tz htz
  obtain ⟨hb, h⟩ := cond_some h
  simp only [Bool.and_eq_true, decide_eq_true_eq] at hb
  obtain ⟨⟨⟨⟨hnm, h0⟩, hlim⟩, hes⟩, hbytes⟩ := hb
  have hes := Nat.eq_of_beq_eq_true hes
  have hbytes := Nat.le_of_ble_eq_true hbytes
  split at h <;> try (cases h; done)
  rename_i hrest
  obtain ⟨hfree, hfin⟩ := newOb_some h
  clear h
  subst hnm
  -- the zero value, read
  have hz0 : CellsR w V μ (fun _ => none) te.zero zs := valsOf_ok _ _ hzs
  have hzp := hz0.plain'
  have hzc : z.cells = zs.toArray := isVal_cells hiv hzp
  obtain ⟨u1, u2, hu12, hr, hh⟩ := takeEl_ok (w := w) (V := V) (W := V) (objs := fun _ => none) (fun _ _ h => by cases h) (fun _ h => h) te.sh te.zero zs tz hz0 htz
    (fun i hi => by obtain ⟨_, _, _, ho⟩ := takeEl_lent _ _ tz htz i hi; cases ho)
  rw [hrest] at hr
  rw [show u2 = [] from hr, List.append_nil] at hu12
  subst hu12
  have hown : tz.owned.map (·.bind μ) = [] ∨ True := .inr trivial
  have hrd : Reads w V te.sh tz.val zs := by
    -- nothing is owned: an owned leaf would read as an empty row
    have gen : ∀ (s : Sh) (x : El s) (cs : List Value) (pl : Places), HoldsS w V s x cs pl → (∀ q ∈ pl, q = none) → Reads w V s x cs := by
      intro s
      induction s with
      | int k => intro x cs pl hh _; exact hh.1
      | bool => intro x cs pl hh _; exact hh.1
      | str => intro x cs pl hh _; exact hh.1
      | sl e _ => intro x cs pl hh _; exact hh.1
      | own e _ =>
        intro x cs pl hh hn
        obtain ⟨c, q, h1, h2, ad, cap, h3, h4, h5⟩ := hh
        have := hn q (by rw [h2]; simp)
        subst this
        exact ⟨c, h1, ad, cap, h3, h4, .inl h5.1⟩
      | pair s1 s2 i1 i2 =>
        intro x cs pl hh hn
        obtain ⟨c1, c2, p1, p2, h1, h2, h3, h4⟩ := hh
        exact ⟨c1, c2, h1, i1 _ _ _ h3 (fun q hq => hn q (by rw [h2]; simp [hq])), i2 _ _ _ h4 (fun q hq => hn q (by rw [h2]; simp [hq]))⟩
      | unit => intro x cs pl hh _; exact hh.1
    refine gen _ _ _ _ hh ?_
    intro q hq
    obtain ⟨i, hi, rfl⟩ := List.mem_map.1 hq
    cases i with
    | none => rfl
    | some i =>
      exfalso
      have hno : ∀ (s : Sh) (cs : List Cell) (t : Taken s), takeEl (fun _ => none) s cs = some t → ∀ i ∈ t.owned, i = none := by
        intro s
        induction s with
        | int k =>
          intro cs t ht i hi
          simp only [takeEl, takeInt] at ht
          split at ht
          · split at ht
            · cases ht; cases hi
            · cases ht
          · cases ht
        | bool =>
          intro cs t ht i hi
          simp only [takeEl, takeBool] at ht
          split at ht
          · cases ht; cases hi
          · cases ht
        | str =>
          intro cs t ht i hi
          simp only [takeEl, takeStr] at ht
          split at ht
          · cases ht; cases hi
          · cases ht
        | sl e _ =>
          intro cs t ht i hi
          simp only [takeEl, takeSlice] at ht
          split at ht
          · split at ht
            · cases ht; cases hi
            · cases ht
          · cases ht
        | own e _ =>
          intro cs t ht i hi
          simp only [takeEl, takeOwned] at ht
          split at ht
          · split at ht
            · rename_i hrd
              cases ht
              simp only [List.mem_singleton] at hi
              subst hi
              unfold takeOwn at hrd
              split at hrd
              · cases hrd; rfl
              · cases hrd
              · cases hrd
            · cases ht
          · cases ht
        | pair s1 s2 i1 i2 =>
          intro cs t ht i hi
          simp only [takeEl] at ht
          split at ht
          · rename_i t1 h1
            split at ht
            · rename_i t2 h2
              cases ht
              rcases List.mem_append.1 hi with h | h
              · exact i1 _ _ h1 i h
              · exact i2 _ _ h2 i h
            · cases ht
          · cases ht
        | unit =>
          intro cs t ht i hi
          simp only [takeEl] at ht
          cases ht; cases hi
      have := hno _ _ _ htz _ hi
      cases this
  have hzl : zs.length = te.sh.size := hrd.length
  have hnn : n ≤ 4294967296 := hlim
  let f : Nat → Value := fun i => zs.toArray[i]!
  have hrows := rows_replicate (x := tz.val) hzl hrd f (fun i hi => by
    have : i < zs.length := by omega
    simp [f, this]) n.toNat
  have hlist : ((Array.range (n.toNat * te.sh.size)).map (fun i => (if n.toNat * te.sh.size = 0 then #[] else zs.toArray)[i % (if n.toNat * te.sh.size = 0 then #[] else zs.toArray).size]!)) =
      ((List.range (n.toNat * te.sh.size)).map fun i => f (i % te.sh.size)).toArray := by
    apply Array.ext'
    simp only [Array.toList_map, Array.toList_range]
    apply List.map_congr_left
    intro i hi
    have hne : ¬ n.toNat * te.sh.size = 0 := by
      intro h0; rw [h0] at hi; simp at hi
    simp only [hne, if_false, f, List.size_toArray, hzl]
  refine OpM.row R (id := id) hfree (e := te.sh) (xs := List.replicate n.toNat tz.val) (vs := (List.range (n.toNat * te.sh.size)).map fun i => f (i % te.sh.size)) (t := e) (cap := n.toNat) ?_ (by simp)
    (by simp) (w' := { w with heap := w.heap.push (.cells ((List.range (n.toNat * te.sh.size)).map fun i => f (i % te.sh.size)).toArray e) }) ⟨rfl, rfl, rfl⟩ ?_ hfin
  · rw [List.take_of_length_le (by simp)]; exact hrows
  · have hw : IntKind.i64.wrap n = n := by
      exact wrap_small h0 (by omega)
    have hbb : (info.bytes : Int) * n ≤ 4096 * 4294967296 := by
      rw [hby]
      exact Int.mul_le_mul (by omega) hnn h0 (by omega)
    have hfits : (decide (n < 0) || decide ((info.bytes : Int) * n > 2 ^ 48)) = false := by
      simp only [Bool.or_eq_false_iff, decide_eq_false_iff_not]
      omega
    unfold Instr.makeSlice
    simp only [Sem.run_bind, run_under hu, Result.andThen_ok, asInt, asIntOf, Sem.run_pure, run_info hi, hw, hfits]
    have hno : ((false || decide (n < 0) || decide (n > n)) = true) = False := by
      simp only [Bool.false_or, Bool.or_eq_true, decide_eq_true_eq, eq_iff_iff, iff_false]; omega
    simp only [hno, if_false, Sem.run_bind, Result.andThen_ok, run_askRoom, run_size hi]
    have hsz2 : info.size = te.sh.size := by rw [hsz, hes]
    rw [hsz2]
    by_cases hz1 : n.toNat * te.sh.size = 0
    · rw [if_pos hz1] at hlist ⊢
      simp only [Sem.run_pure, Result.andThen_ok, newRow, Sem.run_bind, run_newObj, hlist]
      simp
    · rw [if_neg hz1] at hlist ⊢
      simp only [Sem.run_bind, run_zero hi hz, Sem.run_pure, Result.andThen_ok, newRow, run_newObj, hzc, hlist]
      simp

end mem
end Go.Fw

namespace Go.Fw
open Go

section mem
variable {P : Program} {o : Oper} {w0 : World} {U : Nat → Prop} {S : Own} {a : Act} {w : World} {V : Nat → Prop} {μ : Mu} {slots : Nat → AV} {objs : Objs} {β : Type} {y : β}

theorem RelM.keeps_write (R : RelM w0 U S ⟨slots, objs⟩ a w V μ) {id b x : Nat} {ob ob' : Ob} (ho : objs id = some ob) (hwr : ob.wr = true) (hal : Alike ob ob') (hm : μ id = some (b, x))
    {vs us : Array Value} {ty : TypeId} {fr : Nat × Nat} (hb : w.heap[b]? = some (.cells vs ty fr)) (hs : us.size = vs.size) :
    Keeps V V w (setBlk w b us ty fr) μ μ objs (putOb objs id ob') := by
  have hVb : V b := R.inV id ob b x ho hwr hm
  refine ⟨fun b' z hv hz => ⟨hv, ?_⟩, fun i hi => ?_, fun i e xs wr hi hi' => ?_, fun i cs nm hi hi' => ?_⟩
  · rw [setBlk_other (fun (h : b' = b) => hv (by rw [h]; exact hVb))]; exact hz
  · by_cases h : i = id
    · subst h; rw [putOb_same]; rfl
    · rw [putOb_other h]; exact hi
  · by_cases h : i = id
    · subst h
      rw [putOb_same] at hi'
      cases hi'
      cases ob with
      | row e' xs' wr' =>
        obtain ⟨rfl, hl⟩ := hal
        exact ⟨⟨xs', wr', ho, hl⟩, rfl, fun b' o' vs' ty' fr' hm' hb' => setBlk_sizes hb hs b' vs' ty' fr' hb'⟩
      | _ => exact hal.elim
    · rw [putOb_other h] at hi'
      exact ⟨⟨xs, wr, hi', rfl⟩, rfl, fun b' o' vs' ty' fr' hm' hb' => setBlk_sizes hb hs b' vs' ty' fr' hb'⟩
  · by_cases h : i = id
    · subst h
      rw [putOb_same] at hi'
      cases hi'
      cases ob with
      | var nm' cs' =>
        have hal : nm' = nm := hal
        subst hal
        exact ⟨⟨cs', ho⟩, rfl⟩
      | _ => exact hal.elim
    · rw [putOb_other h] at hi'
      exact ⟨⟨cs, hi'⟩, rfl⟩

theorem run_storeAt {T : Tys} (hT : TOk P T) {t : TypeId} {ti : TI} (hti : T.get t = some ti) {b off : Nat} {v : Value} {ag : Bool} {us : List Value} (hv : IsVal ag us v) (hp : ∀ u ∈ us, Plain u)
    (hl : us.length = ti.zero.length) {vs : Array Value} {ty : TypeId} {fr : Nat × Nat} (hb : w.heap[b]? = some (.cells vs ty fr)) (hth : Thawed fr vs.size) (hle : off + us.length ≤ vs.size) :
    (Instr.storeAt t (.pointer (some ⟨b, off, none⟩)) v).run P w = .ok () (setBlk w b (replaceAt vs.toList off us).toArray ty fr) := by
  obtain ⟨info, z, zs, d, hi, hz, hsz, _⟩ := hT _ _ hti
  have hcells := isVal_cells hv hp
  have hst := run_storeRow (P := P) us 0 vs w b off ty fr hb hth (by simpa using hle) hp
  simp only [Nat.add_zero] at hst
  simp [Instr.storeAt, Instr.sureAddr, storeVar, run_size hi, hcells, hsz, hl, hst]

theorem frz_get {ids : List Nat} {id : Nat} {e : Sh} {xs : List (El e)} (ho : objs id = some (.row e xs true)) (hn : ids.contains id = false) : frz ids objs id = some (.row e xs true) := by
  cases ids with
  | nil => exact ho
  | cons i l =>
    have : frz (i :: l) objs = fun j => match objs j with
        | some (.row e xs wr) => some (.row e xs (cond ((i :: l).contains j) false wr))
        | o => o := rfl
    rw [this]
    simp only [ho, hn, cond_false]

theorem replaceAt_right {α : Type} (A L us : List α) (k : Nat) : replaceAt (A ++ L) (A.length + k) us = A ++ replaceAt L k us := by
  simp only [replaceAt]
  rw [List.take_append, List.drop_append]
  rw [List.take_of_length_le (by omega), List.drop_of_length_le (by omega)]
  simp [Nat.add_sub_cancel_left, Nat.add_assoc]

theorem replaceAt_left {α : Type} (C L us : List α) (k : Nat) (h : k + us.length ≤ C.length) : replaceAt (C ++ L) k us = replaceAt C k us ++ L := by
  simp only [replaceAt]
  rw [List.take_append_of_le_length (by omega), List.drop_append_of_le_length (by omega)]
  simp [List.append_assoc]

theorem replaceAt_row {α : Type} (l us : List α) (o p s off n : Nat) (h1 : off + us.length ≤ s) (h2 : p + s ≤ n) (h3 : o + n ≤ l.length) :
    ((replaceAt l (o + p + off) us).drop o).take n = ((l.drop o).take n).take p ++ replaceAt ((((l.drop o).take n).drop p).take s) off us ++ ((l.drop o).take n).drop (p + s) := by
  obtain ⟨A, B, C, D, E, rfl, rfl, rfl, rfl, hn⟩ : ∃ A B C D E : List α, l = A ++ (B ++ (C ++ (D ++ E))) ∧ A.length = o ∧ B.length = p ∧ C.length = s ∧ p + s + D.length = n := by
    refine ⟨l.take o, (l.drop o).take p, ((l.drop o).drop p).take s, (((l.drop o).drop p).drop s).take (n - p - s), (((l.drop o).drop p).drop s).drop (n - p - s), ?_, ?_, ?_, ?_, ?_⟩
    · simp only [List.take_append_drop]
    · simp; omega
    · simp; omega
    · simp; omega
    · simp; omega
  subst hn
  have e1 : replaceAt (A ++ (B ++ (C ++ (D ++ E)))) (A.length + B.length + off) us = A ++ (B ++ (replaceAt C off us ++ (D ++ E))) := by
    rw [Nat.add_assoc, replaceAt_right, replaceAt_right, replaceAt_left _ _ _ _ h1]
  have hr : (replaceAt C off us).length = C.length := replaceAt_length _ _ _ h1
  have t1 : ∀ (X Y : List α), (X ++ Y).drop X.length = Y := fun X Y => by simp
  have e2 : (A ++ (B ++ (C ++ (D ++ E)))).drop A.length = B ++ (C ++ (D ++ E)) := t1 _ _
  have e3 : (B ++ (C ++ (D ++ E))).take (B.length + C.length + D.length) = B ++ (C ++ D) := by
    rw [show B ++ (C ++ (D ++ E)) = (B ++ (C ++ D)) ++ E by simp]
    rw [List.take_append_of_le_length (by simp; omega), List.take_of_length_le (by simp; omega)]
  rw [e1, t1, e2, e3]
  have e4 : (B ++ (replaceAt C off us ++ (D ++ E))).take (B.length + C.length + D.length) = B ++ (replaceAt C off us ++ D) := by
    rw [show B ++ (replaceAt C off us ++ (D ++ E)) = (B ++ (replaceAt C off us ++ D)) ++ E by simp]
    rw [List.take_append_of_le_length (by simp; omega), List.take_of_length_le (by simp; omega)]
  have e5 : (B ++ (C ++ D)).take B.length = B := by simp
  have e6 : ((B ++ (C ++ D)).drop B.length).take C.length = C := by simp
  have e7 : (B ++ (C ++ D)).drop (B.length + C.length) = D := by rw [← List.drop_drop]; simp
  rw [e4, e5, e6, e7]
  simp [List.append_assoc]

theorem evStore_ok (R : RelM w0 U S ⟨slots, objs⟩ a w V μ) {T : Tys} (hT : TOk P T) {t : TypeId} {p q : AV} {vp vq : Value} {k : Objs → Option β}
    (hp : AVR w V μ objs p vp) (hq : AVR w V μ objs q vq) (h : evStore T objs t p q k = some y) :
    ∃ w' objs' V', (Instr.storeAt t vp vq).run P w = .ok () w' ∧ RelM w0 U S ⟨slots, objs'⟩ a w' V' μ ∧ k objs' = some y := by
  unfold evStore at h
  split at h <;> try (cases h; done)
  rename_i ti ag l hti
  obtain ⟨hb, h⟩ := cond_some h
  have hlen := Nat.eq_of_beq_eq_true hb
  obtain ⟨us, hv, hcs⟩ := hq
  have hul := hcs.length
  split at h <;> try (cases h; done)
  · rename_i id off _
    split at h <;> try (cases h; done)
    rename_i nm cs ho
    obtain ⟨hb2, h⟩ := cond_some h
    have hle := Nat.le_of_ble_eq_true hb2
    obtain ⟨b, o', hmu, rfl⟩ := hp.one.2.2 cs _ ho
    obtain ⟨b', vs, ty, fr, hmu', hbl, hth, hcells⟩ := R.objs id _ ho
    have hmu' : μ id = some (b', 0) := hmu'
    rw [hmu] at hmu'
    simp only [Option.some.injEq, Prod.mk.injEq] at hmu'
    obtain ⟨rfl, rfl⟩ := hmu'
    have hl := hcells.length
    rw [Array.length_toList] at hl
    have hvl : vs.toList.length = vs.size := Array.length_toList
    have hsz : (replaceAt vs.toList off us).toArray.size = vs.size := by
      simp only [List.size_toArray]
      rw [replaceAt_length _ _ _ (by omega)]
      simp
    have hrun : (Instr.storeAt t (.pointer (some ⟨b, 0 + off, none⟩)) vq).run P w = .ok () (setBlk w b (replaceAt vs.toList off us).toArray ty fr) := by
      rw [Nat.zero_add]; exact run_storeAt hT hti hv hcs.plain' (by omega) hbl hth (by omega)
    have hkeep := R.keeps_write (ob' := .var nm (replaceAt cs off l)) ho rfl rfl hmu hbl hsz
    refine ⟨_, _, V, hrun, R.write (ob' := .var nm (replaceAt cs off l)) ho rfl rfl rfl hmu hbl hsz ?_, h⟩
    refine ⟨b, _, ty, fr, hmu, setBlk_same (Array.getElem?_eq_some_iff.1 hbl).1, by rw [hsz]; exact hth, ?_⟩
    exact (CellsR.replaceAt hcells hcs off).keeps hkeep
  · rename_i id i off _
    split at h <;> try (cases h; done)
    rename_i e xs ho
    obtain ⟨hb2, h⟩ := cond_some h
    have hle := Nat.le_of_ble_eq_true hb2
    obtain ⟨x, hx, h⟩ := opt_bind_some h
    split at h <;> try (cases h; done)
    rename_i u hu
    split at h <;> try (cases h; done)
    rename_i hrest hown
    obtain ⟨hnc, h⟩ := cond_none h
    obtain ⟨b, o', hmu, rfl⟩ := hp.one.2.2 e xs true ho
    have hi := (List.getElem?_eq_some_iff.1 hx).1
    rcases R.objs id _ ho with ⟨_, hnil⟩ | ⟨b', o2, vs, ty, fr, hmu', hbl, hth, _, hsz, hrows⟩
    · rw [hnil] at hi; simp at hi
    · have hmu' : μ id = some (b', o2) := hmu'
      rw [hmu] at hmu'
      simp only [Option.some.injEq, Prod.mk.injEq] at hmu'
      obtain ⟨rfl, rfl⟩ := hmu'
      have hth := hth rfl
      have hmul : (i + 1) * e.size ≤ xs.length * e.size := Nat.mul_le_mul_right _ hi
      rw [Nat.succ_mul] at hmul
      -- the lent rows are frozen first
      obtain ⟨V', R', hk', hVV, hfr⟩ := R.frz u.lent
      have hids : ∀ j ∈ u.lent, ∀ b x, μ j = some (b, x) → ¬ V' b := by
        intro j hj b x hm
        obtain ⟨e1, xs1, wr1, hoj⟩ := takeEl_lent _ _ u hu j hj
        exact hfr j hj e1 xs1 wr1 hoj b x hm
      have hget : frz u.lent objs id = some (.row e xs true) := frz_get ho hnc
      -- the element's cells
      have hrd := RowsR.get _ _ hrows i x hx
      have hoc := elCells_ok (μ := μ) (objs := objs) e x _ hrd
      have hrl := hrd.length
      have hnew := hoc.replaceAt hcs off
      obtain ⟨u1, u2, hu12, hr, hh⟩ := takeEl_ok R.objs hVV e _ _ u hnew hu hids
      rw [hrest] at hr
      rw [show u2 = [] from hr, List.append_nil] at hu12
      rw [hown] at hh
      have hrd2 := hh.reads
      have hu1 : u1.length = e.size := hrd2.length
      -- the block behind the store
      have hrows' : RowsR e.size (Reads w V' e) xs ((vs.toList.drop o').take (xs.length * e.size)) := RowsR.mono (fun x cs hx => Reads.same hk'.same e x cs hx) _ _ hrows
      have hset := RowsR.set _ _ hrows' i u.val u1 hi hu1 hrd2
      have hsz2 : (replaceAt vs.toList (o' + i * e.size + off) us).toArray.size = vs.size := by
        simp only [List.size_toArray]
        have hvl : vs.toList.length = vs.size := Array.length_toList
        rw [replaceAt_length _ _ _ (by omega)]
        simp
      have hVb : V' b := R'.inV id _ b o' hget rfl hmu
      have hsame : Same V' V' w (setBlk w b (replaceAt vs.toList (o' + i * e.size + off) us).toArray ty fr) := by
        intro b2 z hv2 hz
        exact ⟨hv2, by rw [setBlk_other (fun (h : b2 = b) => hv2 (by rw [h]; exact hVb))]; exact hz⟩
      refine ⟨_, _, V', run_storeAt hT hti hv hcs.plain' (by omega) hbl hth (by omega),
        R'.write (ob' := .row e (xs.set i u.val) true) hget rfl rfl ⟨rfl, by simp⟩ hmu hbl hsz2 ?_, h⟩
      refine .inr ⟨b, o', _, ty, fr, hmu, setBlk_same (Array.getElem?_eq_some_iff.1 hbl).1, fun _ => by rw [hsz2]; exact hth, (fun h => nomatch h), by rw [hsz2, List.length_set]; exact hsz, ?_⟩
      have hfin := RowsR.mono (fun x cs hx => Reads.same hsame e x cs hx) _ _ hset
      rw [List.length_set]
      -- both spell the same cells
      have hspell : ((replaceAt vs.toList (o' + i * e.size + off) us).drop o').take (xs.length * e.size) =
          ((vs.toList.drop o').take (xs.length * e.size)).take (i * e.size) ++ u1 ++ ((vs.toList.drop o').take (xs.length * e.size)).drop (i * e.size + e.size) := by
        rw [← hu12]
        exact replaceAt_row vs.toList us o' (i * e.size) e.size off (xs.length * e.size) (by omega) hmul (by rw [Array.length_toList]; exact hsz)
      rw [show (replaceAt vs.toList (o' + i * e.size + off) us).toArray.toList = replaceAt vs.toList (o' + i * e.size + off) us from rfl, hspell]
      exact hfin

end mem
end Go.Fw

namespace Go.Fw
open Go

section mem
variable {P : Program} {o : Oper} {w0 : World} {U : Nat → Prop} {S : Own} {a : Act} {w : World} {V : Nat → Prop} {μ : Mu} {slots : Nat → AV} {objs : Objs} {β : Type} {y : β}

theorem rowAt.heap {w2 : World} (hh : w2.heap = w.heap) {p : Addr} {n : Nat} {rs : List Value} (h : rowAt w p n rs) : rowAt w2 p n rs := by
  obtain ⟨vs, ty, fr, h1, h2⟩ := h
  exact ⟨vs, ty, fr, by rw [hh]; exact h1, h2⟩

theorem firstCells_zero {n : Nat} {ad : Option Addr} {cap : Nat} : (Builtin.firstCells n 0 (.slice ad 0 cap)).run P w = .ok #[] w := by
  cases ad <;> simp [Builtin.firstCells, loadCells, loadCellsFrom]

/-- what a slice reads as, loaded -/
theorem firstCells_ok {α : Type} {n : Nat} {R : α → List Value → Prop} {xs : List α} {c : Value} (h : SliceR w V n R xs c) :
    ∃ ad cap rs, c = .slice ad xs.length cap ∧ RowsR n R xs rs ∧ ∀ w2 : World, w2.heap = w.heap → (Builtin.firstCells n xs.length c).run P w2 = .ok rs.toArray w2 := by
  obtain ⟨ad, cap, rfl, hcap, rfl | ⟨p, rfl, hv, rs, hrow, hrs⟩⟩ := h
  · exact ⟨ad, cap, [], rfl, rfl, fun w2 _ => firstCells_zero⟩
  · refine ⟨_, cap, rs, rfl, hrs, fun w2 hw2 => ?_⟩
    have := run_loadRow (P := P) (hrow.heap hw2) hrow.len
    simpa [Builtin.firstCells] using this

/-- what an append begins with -/
theorem head_ok {e : Sh} {c : Cell} {v : Value} {xs : List (El e)} {i : Option Nat} (hO : ∀ id o, objs id = some o → ObR w V μ objs id o) (hc : CellR w V μ objs c v) (h : headOf objs e c = some (xs, i)) :
    ∃ base cap rs, v = .slice base xs.length cap ∧ xs.length ≤ cap ∧ RowsR e.size (Reads w V e) xs rs ∧
      (∀ w2 : World, w2.heap = w.heap → (Builtin.firstCells e.size xs.length v).run P w2 = .ok rs.toArray w2) ∧
      (∀ j, i = some j → ∃ xs', objs j = some (.row e xs' true)) ∧
      (cap = 0 ∨ ∃ j b q x vs ty fr, i = some j ∧ base = some ⟨b, q, none⟩ ∧ w.heap[b]? = some (.cells vs ty fr) ∧ Thawed fr vs.size ∧ q + cap * e.size ≤ vs.size ∧
        rs = (vs.toList.drop q).take (xs.length * e.size) ∧ μ j = some (b, x)) := by
  have gen : ∀ (id off len cap : Nat) (ad : Option Addr) (xs' : List (El e)), objs id = some (.row e xs' true) → off + len ≤ xs'.length → OwnRef w (μ id) e.size off len (.slice ad len cap) →
      ∃ rs, RowsR e.size (Reads w V e) ((xs'.drop off).take len) rs ∧ (∀ w2 : World, w2.heap = w.heap → (Builtin.firstCells e.size len (.slice ad len cap)).run P w2 = .ok rs.toArray w2) ∧
        (cap = 0 ∨ ∃ b q x vs ty fr, ad = some ⟨b, q, none⟩ ∧ w.heap[b]? = some (.cells vs ty fr) ∧ Thawed fr vs.size ∧ q + cap * e.size ≤ vs.size ∧
          rs = (vs.toList.drop q).take (len * e.size) ∧ μ id = some (b, x)) := by
    intro id off len cap ad xs' ho hle href
    obtain ⟨ad', cap', he, hcap, hm⟩ := href
    cases he
    rcases hO id _ ho with ⟨hmu, hx⟩ | ⟨b, o', vs, ty, fr, hmu, hb, hth, _, hsz, hrows⟩
    · rw [hmu] at hm
      have h0 : len = 0 := by simp only at hm; omega
      subst h0
      exact ⟨[], by simp [RowsR], fun w2 _ => firstCells_zero, .inl hm⟩
    · rw [hmu] at hm
      obtain ⟨h1, vs', ty', fr', hb', hsz'⟩ := hm
      rw [hb] at hb'
      cases hb'
      by_cases h0 : cap = 0
      · have h0' : len = 0 := by omega
        subst h0'
        exact ⟨[], by simp [RowsR], fun w2 _ => firstCells_zero, .inl h0⟩
      · have h1 := h1.resolve_left h0
        subst h1
        have hmul : (off + len) * e.size ≤ xs'.length * e.size := Nat.mul_le_mul_right _ hle
        rw [Nat.add_mul] at hmul hsz'
        have hr := RowsR.take _ _ (RowsR.drop _ _ hrows off) len
        rw [List.drop_take, List.take_take, List.drop_drop, Nat.min_eq_left (by omega)] at hr
        have hrow : rowAt w ⟨b, o' + off * e.size, none⟩ (len * e.size) ((vs.toList.drop (o' + off * e.size)).take (len * e.size)) := ⟨vs, ty, fr, hb, rfl, by simp only; omega, rfl⟩
        refine ⟨_, hr, fun w2 hw2 => ?_, .inr ⟨b, _, o', vs, ty, fr, rfl, hb, hth rfl, by omega, rfl, hmu⟩⟩
        have := run_loadRow (P := P) (hrow.heap hw2) hrow.len
        simpa [Builtin.firstCells] using this
  unfold headOf at h
  split at h
  · cases h
    obtain ⟨ad, rfl⟩ := hc
    exact ⟨ad, 0, [], rfl, by simp, rfl, fun w2 _ => firstCells_zero, (fun j hj => nomatch hj), .inl rfl⟩
  · rename_i id
    split at h <;> try (cases h; done)
    rename_i e' xs' ho
    split at h <;> cases h
    rename_i hee
    subst hee
    obtain ⟨ad, cap, rfl, hcap, hm⟩ := hc.2 _ _ _ ho
    obtain ⟨rs, h1, h2, h3⟩ := gen id 0 xs'.length cap ad xs' ho (by omega) ⟨ad, cap, rfl, hcap, hm⟩
    have e0 : (xs'.drop 0).take xs'.length = xs' := by simp
    rw [e0] at h1
    refine ⟨ad, cap, rs, rfl, hcap, h1, h2, (fun j hj => by cases hj; exact ⟨xs', ho⟩), ?_⟩
    rcases h3 with h3 | ⟨b, q, x, vs, ty, fr, g1, g2, g3, g4, g5, g6⟩
    · exact .inl h3
    · exact .inr ⟨id, b, q, x, vs, ty, fr, rfl, g1, g2, g3, g4, g5, g6⟩
  · rename_i id off len
    split at h <;> try (cases h; done)
    rename_i e' xs' ho
    split at h <;> cases h
    rename_i hee
    subst hee
    obtain ⟨hle, ad, cap, rfl, hcap, hm⟩ := hc.2 _ _ _ ho
    obtain ⟨rs, h1, h2, h3⟩ := gen id off len cap ad xs' ho hle ⟨ad, cap, rfl, hcap, hm⟩
    have hl : ((xs'.drop off).take len).length = len := by rw [List.length_take, List.length_drop]; omega
    have e0 : (castRow rfl xs' : List (El e')) = xs' := rfl
    rw [e0, hl]
    refine ⟨ad, cap, rs, rfl, hcap, h1, h2, (fun j hj => by cases hj; exact ⟨xs', ho⟩), ?_⟩
    rcases h3 with h3 | ⟨b, q, x, vs, ty, fr, g1, g2, g3, g4, g5, g6⟩
    · exact .inl h3
    · exact .inr ⟨id, b, q, x, vs, ty, fr, rfl, g1, g2, g3, g4, g5, g6⟩
  · cases h

theorem zeroCells_len (z : Array Value) (n : Nat) : (Builtin.zeroCells z n).size = n * z.size := by simp [Builtin.zeroCells]

theorem run_append_in {t u ty e e2 : TypeId} {info : TypeInfo} (ht : P.underlying t = some (.slice e)) (hu : P.underlying u = some (.slice e2)) (hi : P.info? e = some info)
    {base ad : Option Addr} {sLen sCap m c : Nat} {news : List Value} (hnew : (Builtin.firstCells info.size m (.slice ad m c)).run P w = .ok news.toArray w) (hroom : sLen + m ≤ sCap) :
    (Builtin.append_ #[t, u] ty #[.slice base sLen sCap, .slice ad m c]).run P w =
      (((match base with | some q => storeCells (q.add (sLen * info.size)) news | none => pure ()) : Sem Unit).run P w).andThen fun _ w' => .ok (.slice base (sLen + m) sCap) w' := by
  cases base with
  | none => simp [Builtin.append_, run_under ht, run_under hu, run_size hi, Builtin.lenOf, hroom, hnew]
  | some q => simp [Builtin.append_, run_under ht, run_under hu, run_size hi, Builtin.lenOf, hroom, hnew]

theorem run_append_out {t u ty e e2 : TypeId} {info : TypeInfo} {z : Value} (ht : P.underlying t = some (.slice e)) (hu : P.underlying u = some (.slice e2)) (hi : P.info? e = some info) (hz : info.zero = some z)
    {base ad : Option Addr} {sLen sCap m c : Nat} {olds news : List Value} (hold : (Builtin.firstCells info.size sLen (.slice base sLen sCap)).run P w.drew = .ok olds.toArray w.drew)
    (hnew : (Builtin.firstCells info.size m (.slice ad m c)).run P w.drew = .ok news.toArray w.drew) (hroom : sCap < sLen + m)
    (hfit : (sLen + m) * info.bytes ≤ 140737488355328) (h63 : sLen + m ≤ 9223372036854775807) :
    (Builtin.append_ #[t, u] ty #[.slice base sLen sCap, .slice ad m c]).run P w =
      .ok (.slice (some ⟨w.heap.size, 0, none⟩) (sLen + m) (grownCap w (sLen + m) sCap e))
        (w.drew.alloc (.cells (olds.toArray ++ news.toArray ++ Builtin.zeroCells z.cells (grownCap w (sLen + m) sCap e - (sLen + m))) e)) := by
  have hn : ¬ (sLen + m ≤ sCap) := by omega
  have h63' : ¬ (9223372036854775807 < ((sLen : Int) + (m : Int))) := by omega
  have hcap := growslice_fits hroom hfit
  have h48' : ¬ (281474976710656 < Builtin.nextslicecap (sLen + m) sCap * info.bytes) := by omega
  simp [Builtin.append_, run_under ht, run_under hu, run_size hi, run_info hi, run_zero hi hz, Builtin.lenOf, hn, h63', h48', Question.forced, hold, hnew, newRow, grownCap]
  congr 2
  apply Array.ext'
  simp [List.append_assoc]

theorem src_ok {e : Sh} {c : Cell} {vq : Value} {ys : List (El e)} {ids : List Nat} (hO : ∀ id o, objs id = some o → ObR w V μ objs id o) (hq : CellR w V μ objs c vq) (hread : readSl objs e c = some (ys, ids)) :
    ∃ ad m rs, vq = .slice ad ys.length m ∧ RowsR e.size (Reads w V e) ys rs ∧ ∀ w2 : World, w2.heap = w.heap → (Builtin.firstCells e.size ys.length vq).run P w2 = .ok rs.toArray w2 := by
  unfold readSl at hread
  split at hread
  · cases hread
    obtain ⟨ad, rfl⟩ := hq
    exact ⟨ad, 0, [], rfl, rfl, fun w2 _ => firstCells_zero⟩
  · split at hread <;> cases hread
    rename_i h'
    subst h'
    exact firstCells_ok hq
  · rename_i j
    split at hread <;> try (cases hread; done)
    rename_i e' xs' wr ho
    split at hread <;> cases hread
    rename_i h'
    subst h'
    have hr := hq.2 _ _ _ ho
    have hrd := (hO j _ ho).read (W := fun _ => False) hr (by omega) (fun _ h => h.elim) (fun _ _ _ h => h)
    have e0 : (xs'.drop 0).take xs'.length = xs' := by simp
    rw [e0] at hrd
    obtain ⟨ad, m, rs, rfl, hrs, hf⟩ := firstCells_ok (P := P) hrd
    refine ⟨ad, m, rs, rfl, ?_, hf⟩
    obtain ⟨ad2, m2, hh1, hh2, hm⟩ := hr
    cases hh1
    rcases hO j _ ho with ⟨_, hx⟩ | ⟨b, o', vs, ty2, fr, hmu, hbk, _, _, hl, hrows⟩
    · subst hx; rw [show rs = [] from hrs]; rfl
    · have hmu : μ j = some (b, o') := hmu
      rw [hmu] at hm
      by_cases h0 : xs'.length = 0
      · have : xs' = [] := List.eq_nil_of_length_eq_zero h0
        subst this; rw [show rs = [] from hrs]; rfl
      · have had := hm.1.resolve_left (by omega)
        subst had
        have hf2 := hf w rfl
        have hrow : rowAt w ⟨b, o', none⟩ (xs'.length * e'.size) ((vs.toList.drop o').take (xs'.length * e'.size)) := ⟨vs, ty2, fr, hbk, rfl, hl, rfl⟩
        have hld := run_loadRow (P := P) hrow hrow.len
        simp only [Builtin.firstCells, Nat.zero_mul, Nat.add_zero] at hf2
        rw [hld] at hf2
        simp only [Result.ok.injEq] at hf2
        have : rs = (vs.toList.drop o').take (xs'.length * e'.size) := by
          have := hf2.1
          simpa using this.symm
        rw [this]; exact hrows
  · rename_i j off len
    split at hread <;> try (cases hread; done)
    rename_i e' xs' wr ho
    split at hread <;> cases hread
    rename_i h'
    subst h'
    obtain ⟨hle, hr⟩ := hq.2 _ _ _ ho
    have hrd := (hO j _ ho).read (W := fun _ => False) hr hle (fun _ h => h.elim) (fun _ _ _ h => h)
    obtain ⟨ad, m, rs, hv, hrs, hf⟩ := firstCells_ok (P := P) hrd
    have hlen : ((xs'.drop off).take len).length = len := by rw [List.length_take, List.length_drop]; omega
    refine ⟨ad, m, rs, hv, ?_, hf⟩
    obtain ⟨ad2, m2, hh1, hh2, hm⟩ := hr
    have hce : (castRow rfl xs' : List (El e')) = xs' := rfl
    rw [hce]
    rcases hO j _ ho with ⟨_, hx⟩ | ⟨b, o', vs, ty2, fr, hmu, hbk, _, _, hl, hrows⟩
    · subst hx
      have : ((([] : List (El e')).drop off).take len) = [] := by simp
      rw [this] at hrs ⊢; rw [show rs = [] from hrs]; rfl
    · have hmu : μ j = some (b, o') := hmu
      rw [hmu] at hm
      by_cases h0 : len = 0
      · subst h0
        have : ((xs'.drop off).take 0) = [] := by simp
        rw [this] at hrs ⊢; rw [show rs = [] from hrs]; rfl
      · have had := hm.1.resolve_left (by omega)
        subst had
        subst hh1
        have hf2 := hf w rfl
        rw [hlen] at hf2
        have hmul : (off + len) * e'.size ≤ xs'.length * e'.size := Nat.mul_le_mul_right _ hle
        rw [Nat.add_mul] at hmul
        have hr2 := RowsR.take _ _ (RowsR.drop _ _ hrows off) len
        rw [List.drop_take, List.take_take, List.drop_drop, Nat.min_eq_left (by omega)] at hr2
        have hrow : rowAt w ⟨b, o' + off * e'.size, none⟩ (len * e'.size) ((vs.toList.drop (o' + off * e'.size)).take (len * e'.size)) := ⟨vs, ty2, fr, hbk, rfl, by simp only; omega, rfl⟩
        have hld := run_loadRow (P := P) hrow hrow.len
        simp only [Builtin.firstCells] at hf2
        rw [hld] at hf2
        simp only [Result.ok.injEq] at hf2
        have : rs = (vs.toList.drop (o' + off * e'.size)).take (len * e'.size) := by
          have := hf2.1
          simpa using this.symm
        rw [this]; exact hr2
  · cases hread

theorem evAppend_ok (R : RelM w0 U S ⟨slots, objs⟩ a w V μ) {T : Tys} (hT : TOk P T) {t u ty : TypeId} {tu : TI} {e2 : TypeId} (htu : T.get u = some tu) (hku : tu.kind = .slice e2) {p q : AV} {vp vq : Value} {id : Nat}
    {k : AV → Objs → Option β} (hp : AVR w V μ objs p vp) (hq : AVR w V μ objs q vq) (h : evAppend T objs t p q id k = some y) :
    OpM w0 U S slots a (fun w => (Builtin.append_ #[t, u] ty #[vp, vq]).run P w) w (fun av objs' => k av objs' = some y) := by
  have hu : P.underlying u = some (.slice e2) := by
    obtain ⟨_, _, _, d, _, _, _, _, _, _, h1, h2⟩ := hT _ _ htu
    rw [hku] at h2
    rw [h1, show d = .slice e2 from h2]
  unfold evAppend at h
  split at h <;> try (cases h; done)
  rename_i ti c d hti
  obtain ⟨_, _, _, ds, _, _, _, _, _, _, ht, hk⟩ := hT _ _ hti
  split at h <;> try (cases h; done)
  rename_i e hke
  rw [hke] at hk
  rw [show ds = .slice e from hk] at ht
  split at h <;> try (cases h; done)
  rename_i te hte
  obtain ⟨info, z, zs, d', hi, hz, hsz, hby, hzs, hiv, hu', hk'⟩ := hT _ _ hte
  obtain ⟨hb, h⟩ := cond_some h
  simp only [Bool.and_eq_true, Bool.not_eq_true'] at hb
  have hes := Nat.eq_of_beq_eq_true hb.1.1
  have hbytes := Nat.le_of_ble_eq_true hb.1.2
  have hpos : te.sh.size ≠ 0 := by
    rw [hes]
    intro h0
    have := hb.2
    rw [h0] at this
    cases this
  have hsz2 : info.size = te.sh.size := by rw [hsz, hes]
  split at h <;> try (cases h; done)
  rename_i xs i ys ids hhead hread
  obtain ⟨hlim, h⟩ := cond_some h
  have hlim : xs.length + ys.length ≤ 4294967296 := Nat.le_of_ble_eq_true hlim
  -- what there is
  obtain ⟨base, cap, olds, rfl, hcap, hrolds, hfold, hi2, hroom⟩ := head_ok (P := P) R.objs hp.one.2 hhead
  have hi2 : ∀ j, i = some j → ∃ xs', objs j = some (.row te.sh xs' true) := hi2
  have hsrcV := src_ok (P := P) R.objs hq.one.2 hread
  obtain ⟨ad, m, news, rfl, hrnews, hfnew⟩ := hsrcV
  have hnl := hrnews.length
  have hol := hrolds.length
  have hrall := RowsR.append _ _ _ _ hrolds hrnews
  rw [← hsz2] at hfold hfnew
  -- the state behind the old row
  have hst : ∃ objs1, RelM w0 U S ⟨slots, objs1⟩ a w V μ ∧ objs1 id = none ∧ k (.cs false [.own id]) (putOb objs1 id (.row te.sh (xs ++ ys) true)) = some y ∧
      (∀ j, i = some j → ∀ j' o x b, objs1 j' = some o → o.wr = true → μ j' = some (b, x) → (∃ x', μ j = some (b, x')) → False) := by
    cases i with
    | none =>
      obtain ⟨hfree, h⟩ := newOb_some h
      exact ⟨objs, R, hfree, h, (fun j hj => nomatch hj)⟩
    | some j =>
      obtain ⟨hfree, h⟩ := newOb_some h
      obtain ⟨xs', hj⟩ := hi2 j rfl
      refine ⟨_, R.kill (j := j) (by rw [hj]; rfl), hfree, h, ?_⟩
      intro j2 hj2 j' o x b h1 h2 h3 ⟨x', h4⟩
      cases hj2
      by_cases hjj : j' = j
      · subst hjj; rw [putOb_same] at h1; cases h1; cases h2
      · rw [putOb_other hjj] at h1
        exact hjj (R.inj j' j o _ b x x' h1 hj h2 rfl h3 h4)
  obtain ⟨objs1, R1, hfree, hk1, hno⟩ := hst
  by_cases hin : xs.length + ys.length ≤ cap
  · -- there is room
    have hrun := run_append_in (P := P) (w := w) (ty := ty) (base := base) (sLen := xs.length) (sCap := cap) (c := m) ht hu hi (hfnew w rfl) hin
    rcases hroom with h0 | ⟨j, b, q', x, vs, tb, fr, hij, rfl, hbk, hth, hle, holds, hmu⟩
    · -- nothing at all
      have e1 : xs = [] := List.eq_nil_of_length_eq_zero (by omega)
      have e2 : ys = [] := List.eq_nil_of_length_eq_zero (by omega)
      subst e1 e2
      have hn0 : news = [] := hrnews
      subst hn0 h0
      have R2 := R1.new (id := id) (ob := .row te.sh [] true) hfree (w' := w) (blk := none) (off := 0) (by simp) ⟨rfl, rfl, rfl⟩ (.inl ⟨putMu_same, rfl⟩)
      refine ⟨.slice base 0 0, w, _, _, _, _, ?_, AVR.mks ?_, R2, hk1⟩
      · show (Builtin.append_ _ _ _).run P w = _
        rw [hrun]
        cases base <;> simp [storeCells]
      · refine ⟨by rw [putOb_same]; rfl, fun e' xs' wr' h => ?_⟩
        rw [putOb_same] at h
        cases h
        refine ⟨base, 0, rfl, Nat.le_refl _, ?_⟩
        rw [putMu_same]
        rfl
    · have hVb : V b := R.inV j _ b x (hi2 j hij).choose_spec rfl hmu
      have hmulx : (xs.length + ys.length) * te.sh.size ≤ cap * te.sh.size := Nat.mul_le_mul_right _ hin
      rw [Nat.add_mul] at hmulx
      have hvl : vs.toList.length = vs.size := Array.length_toList
      have hnp : ∀ u ∈ news, Plain u := by
        intro u hu
        have gen : ∀ (ys : List (El te.sh)) (cs : List Value), RowsR te.sh.size (Reads w V te.sh) ys cs → ∀ u ∈ cs, Plain u := by
          intro ys
          induction ys with
          | nil => intro cs hc u hu; rw [show cs = [] from hc] at hu; cases hu
          | cons y ys ih =>
            intro cs hc u hu
            obtain ⟨h1, h2, h3⟩ := hc
            rw [← List.take_append_drop te.sh.size cs] at hu
            rcases List.mem_append.1 hu with hu | hu
            · exact (elCells_ok (μ := μ) (objs := objs) te.sh y _ h2).plain' u hu
            · exact ih _ h3 u hu
        exact gen ys news hrnews u hu
      have hst := run_storeRow (P := P) news 0 vs w b (q' + xs.length * te.sh.size) tb fr hbk hth (by omega) hnp
      simp only [Nat.add_zero] at hst
      have hsz3 : (replaceAt vs.toList (q' + xs.length * te.sh.size) news).toArray.size = vs.size := by
        simp only [List.size_toArray]
        rw [replaceAt_length _ _ _ (by omega)]
        simp
      have horig : b ∈ S ∨ w0.heap.size ≤ b := R.orig j _ b x (hi2 j hij).choose_spec rfl hmu
      have hsame : Same V V w (setBlk w b (replaceAt vs.toList (q' + xs.length * te.sh.size) news).toArray tb fr) := by
        intro b2 z' hv2 hz'
        exact ⟨hv2, by rw [setBlk_other (fun (h : b2 = b) => hv2 (by rw [h]; exact hVb))]; exact hz'⟩
      have hblk : ((replaceAt vs.toList (q' + xs.length * te.sh.size) news).drop q').take ((xs ++ ys).length * te.sh.size) = olds ++ news := by
        rw [holds, List.length_append, Nat.add_mul, replaceAt, List.append_assoc, List.drop_append_of_le_length (by rw [List.length_take]; omega), List.drop_take,
          show q' + xs.length * te.sh.size - q' = xs.length * te.sh.size by omega]
        have hl1 : ((vs.toList.drop q').take (xs.length * te.sh.size)).length = xs.length * te.sh.size := by rw [List.length_take, List.length_drop]; omega
        rw [← List.append_assoc, List.take_append_of_le_length (by rw [List.length_append, hl1]; omega), List.take_of_length_le (by rw [List.length_append, hl1]; omega)]
      have R2 := R1.take (id := id) (b := b) (off := q') (ob := .row te.sh (xs ++ ys) true) (by simp) hfree hVb horig (fun j' o x' h1 h2 h3 => hno j hij j' o x' b h1 h2 h3 ⟨x, hmu⟩) hbk hsz3
        (.inr ⟨b, q', _, tb, fr, putMu_same, setBlk_same (Array.getElem?_eq_some_iff.1 hbk).1, fun _ => by rw [hsz3]; exact hth, (fun h => nomatch h), by
          rw [hsz3, List.length_append, Nat.add_mul]; omega, by
          rw [show (replaceAt vs.toList (q' + xs.length * te.sh.size) news).toArray.toList = replaceAt vs.toList (q' + xs.length * te.sh.size) news from rfl, hblk]
          exact RowsR.mono (fun x cs hx => Reads.same hsame te.sh x cs hx) _ _ hrall⟩)
      refine ⟨.slice (some ⟨b, q', none⟩) (xs.length + ys.length) cap, _, _, _, _, _, ?_, AVR.mks ?_, R2, hk1⟩
      · show (Builtin.append_ _ _ _).run P w = _
        rw [hrun]
        have hadd : (⟨b, q', none⟩ : Addr).add (xs.length * info.size) = ⟨b, q' + xs.length * te.sh.size, none⟩ := by
          rw [hsz2]
          unfold Addr.add
          split
          · rename_i h0; rw [h0]; rfl
          · rfl
        simp only [hadd, hst, Result.andThen_ok]
      · refine ⟨by rw [putOb_same]; rfl, fun e' xs' wr' h => ?_⟩
        rw [putOb_same] at h
        cases h
        refine ⟨_, cap, by rw [List.length_append], by rw [List.length_append]; exact hin, ?_⟩
        rw [putMu_same]
        exact ⟨.inr (by simp), _, tb, fr, setBlk_same (Array.getElem?_eq_some_iff.1 hbk).1, by rw [hsz3]; simpa using hle⟩
  · -- a new array
    have hfit : (xs.length + ys.length) * info.bytes ≤ 140737488355328 := by
      rw [hby]
      have := Nat.mul_le_mul hlim hbytes
      omega
    have hrun := run_append_out (P := P) (w := w) (ty := ty) (base := base) (ad := ad) (sLen := xs.length) (sCap := cap) (m := ys.length) (c := m) ht hu hi hz (hfold w.drew rfl) (hfnew w.drew rfl) (by omega) hfit (by omega)
    have hge := show xs.length + ys.length ≤ grownCap w (xs.length + ys.length) cap e by simp [grownCap, Question.cut]
    have hzsz : z.cells.size = te.sh.size := by
      have hz0 : CellsR w V μ objs te.zero zs := valsOf_ok _ _ hzs
      rw [isVal_cells hiv hz0.plain', List.size_toArray, hz0.length, hes]
    refine OpM.row R1 (id := id) hfree (e := te.sh) (xs := xs ++ ys) (vs := olds ++ news ++ (Builtin.zeroCells z.cells (grownCap w (xs.length + ys.length) cap e - (xs.length + ys.length))).toList) (t := e)
      (cap := grownCap w (xs.length + ys.length) cap e) ?_ (by rw [List.length_append]; exact hge) ?_
      (w' := w.drew.alloc (.cells (olds.toArray ++ news.toArray ++ Builtin.zeroCells z.cells (grownCap w (xs.length + ys.length) cap e - (xs.length + ys.length))) e)) ?_ ?_ hk1
    · have hl : (olds ++ news).length = (xs ++ ys).length * te.sh.size := hrall.length
      rw [List.take_append_of_le_length (by omega), List.take_of_length_le (by omega)]
      exact hrall
    · have hzl : ∀ N, (Builtin.zeroCells z.cells N).toList.length = N * te.sh.size := fun N => by
        have := zeroCells_len z.cells N
        rw [hzsz] at this
        simpa using this
      rw [List.length_append, List.length_append, hzl, hol, hnl, ← Nat.add_mul, ← Nat.add_mul]
      exact Nat.le_of_eq (by congr 1; omega)
    · refine ⟨?_, rfl, rfl⟩
      simp only [World.alloc, World.drew]
      congr 2
      apply Array.ext'
      simp [List.append_assoc]
    · rw [List.length_append]
      exact hrun

end mem
end Go.Fw

namespace Go.Fw
open Go

section vals
variable {P : Program} {o : Oper} {w0 : World} {U : Nat → Prop} {S : Own} {a : Act} {w : World} {V : Nat → Prop} {μ : Mu} {slots : Nat → AV} {objs : Objs} {β : Type} {y : β}

theorem OpOk.ofM {run : World → Result Value} {post : AV → Objs → Prop} (h : OpM w0 U S slots a run w post) (hrun : ∀ v w', run w = .ok v w' → (execOp a.eval o).run P w = .ok (.value v) w') :
    OpOk P o a w0 U S slots w post := by
  obtain ⟨v, w', av, objs', V', μ', h1, h2, h3, h4⟩ := h
  exact ⟨_, w', av, objs', V', μ', hrun v w' h1, .inl ⟨v, rfl, h2⟩, h3, h4⟩

theorem eval_map (a : Act) (ps : Array (Nat × Operand)) : ps.map (fun p => (p.1, a.eval p.2)) = (ps.toList.map fun p => (p.1, a.eval p.2)).toArray := by
  apply Array.ext'; simp

theorem toList_two {α : Type} {l : Array α} {x z : α} (h : l.toList = [x, z]) : l = #[x, z] := by
  apply Array.ext'; simpa using h
theorem toList_one {α : Type} {l : Array α} {x : α} (h : l.toList = [x]) : l = #[x] := by
  apply Array.ext'; simpa using h

theorem cut_val (R : RelM w0 U S ⟨slots, objs⟩ a w V μ) (x : Option Operand) : CutR w V μ objs (x.map (AS.val ⟨slots, objs⟩)) (x.map a.eval) := by
  cases x with
  | none => trivial
  | some x => exact R.val x

theorem ptrIds_ok : ∀ (l : List Operand) (ids : List Nat), (∀ x ∈ l, AVR w V μ objs (AS.val ⟨slots, objs⟩ x) (a.eval x)) → ptrIds (l.map (AS.val ⟨slots, objs⟩)) = some ids → PtrsR μ objs ids (l.map a.eval)
  | [], ids, _, h => by simp only [List.map_nil, ptrIds, Option.some.injEq] at h; subst h; rfl
  | x :: l, ids, hv, h => by
    simp only [List.map_cons, ptrIds] at h
    split at h <;> cases h
    rename_i id l' h1 h2
    have hx := hv x (by simp)
    rw [AV.ptrId_eq h1] at hx
    exact ⟨_, _, rfl, hx.one.1, hx.one.2, ptrIds_ok l l' (fun x hx => hv x (by simp [hx])) h2⟩

theorem evVal_ok (R : RelM w0 U S ⟨slots, objs⟩ a w V μ) {T : Tys} (hT : TOk P T) {k : AV → Objs → Option β} (h : evVal T o ⟨slots, objs⟩ k = some y) :
    OpOk P o a w0 U S slots w (fun av objs' => k av objs' = some y) := by
  unfold evVal at h
  split at h
  · rename_i x hop
    exact OpOk.pure R (by rw [execOp, hop]; rfl) (R.val x) h
  · rename_i x hop
    exact OpOk.pure R (by rw [execOp, hop]; rfl) (R.val x) h
  · rename_i c x z hop
    obtain ⟨t, av, h1, h2, h3⟩ := evPick_ok h (R.val c) (R.val x) (R.val z)
    refine OpOk.pure R (v := if t then a.eval x else a.eval z) ?_ h3 h2
    rw [execOp, hop]
    simp [h1, asBool]
  · rename_i t hop
    split at h <;> try (cases h; done)
    rename_i ti hti
    obtain ⟨hfree, h⟩ := newOb_some h
    obtain ⟨info, z, zs, d, hi, hz, hsz, _, hzs, hiv, _, _⟩ := hT _ _ hti
    have hz0 : CellsR w V μ objs ti.zero zs := valsOf_ok _ _ hzs
    refine OpOk.ofM (OpM.var (t := t) (run := fun w => (Instr.alloc t true (.tuple #[])).run P w) R hfree hz0 ?_ h) ?_
    · simp [Instr.alloc, run_zero hi hz, newVar, newRow, isVal_cells hiv hz0.plain']
    · intro v w' hr
      rw [execOp, hop]
      simp only [Sem.run_bind, hr, Result.andThen_ok, Sem.run_pure]
  · rename_i t x hop
    split at h <;> try (cases h; done)
    rename_i ag l hx
    obtain ⟨hfree, h⟩ := newOb_some h
    have hv := R.val x
    rw [hx] at hv
    obtain ⟨us, hiv, hcs⟩ := hv
    refine OpOk.ofM (OpM.var (t := t) (run := fun w => (Instr.box t (a.eval x)).run P w) R hfree hcs ?_ h) ?_
    · simp [Instr.box, newVar, newRow, isVal_cells hiv hcs.plain']
    · intro v w' hr
      rw [execOp, hop]
      simp only [Sem.run_bind, hr, Result.andThen_ok, Sem.run_pure]
  · rename_i t ps hop
    obtain ⟨av, v, h1, h2, h3⟩ := evBuild_ok hT (parts_ok R ps.toList) h
    refine OpOk.pure R (v := v) ?_ h2 h1
    rw [execOp, hop]
    simp only [Sem.run_bind, eval_map, h3, Result.andThen_ok, Sem.run_pure]
  · rename_i t len ps hop
    refine OpOk.ofM (evBuildSlice_ok R hT (parts_ok R ps.toList) h) ?_
    intro v w' hr
    rw [execOp, hop]
    simp only [Sem.run_bind, eval_map, hr, Result.andThen_ok, Sem.run_pure]
  · rename_i t x hop
    obtain ⟨av, v, h1, h2, h3⟩ := evLoad_ok hT R.objs h (R.val x)
    refine OpOk.pure R (v := v) ?_ h2 h1
    rw [execOp, hop]
    simp only [Sem.run_bind, h3, Result.andThen_ok, Sem.run_pure]
  · rename_i t x z hop
    obtain ⟨w', objs', V', h1, h2, h3⟩ := evStore_ok R hT (R.val x) (R.val z) h
    refine ⟨.skip, w', .undef, objs', V', μ, ?_, .inr ⟨rfl, rfl⟩, h2, h3⟩
    rw [execOp, hop]
    simp only [Sem.run_bind, h1, Result.andThen_ok, Sem.run_pure]
  · rename_i x hop
    obtain ⟨b, q, c, h1, h2, h3⟩ := evField_ok h (R.val x)
    refine OpOk.pure R (v := a.eval x) ?_ (R.val x) h2
    rw [execOp, hop]
    simp only [h1]
    rfl
  · rename_i op t x z ty hop
    obtain ⟨c, h1, h2, h3, h4⟩ := evBin_ok hT (xo := x) (yo := z) h (R.val x) (R.val z)
    refine OpOk.pure R (v := cellVal c) ?_ (AVR.mk1 (scalar_ok (w := w) (V := V) (μ := μ) (objs := objs) h2).1 (scalar_ok h2).2) h1
    rw [execOp, hop]
    simp only [Sem.run_bind, h3, h4, Result.andThen_ok, Sem.run_pure]
  · rename_i op t x hop
    obtain ⟨c, h1, h2, h3⟩ := evUn_ok (P := P) h (R.val x)
    refine OpOk.pure R (v := cellVal c) ?_ (AVR.mk1 (scalar_ok (w := w) (V := V) (μ := μ) (objs := objs) h2).1 (scalar_ok h2).2) h1
    rw [execOp, hop]
    simp only [Sem.run_bind, h3, Result.andThen_ok, Sem.run_pure]
  · rename_i s d x hop
    obtain ⟨c, h1, h2, h3⟩ := evConvert_ok hT h (R.val x)
    refine OpOk.pure R (v := cellVal c) ?_ (AVR.mk1 (scalar_ok (w := w) (V := V) (μ := μ) (objs := objs) h2).1 (scalar_ok h2).2) h1
    rw [execOp, hop]
    simp only [Sem.run_bind, h3, Result.andThen_ok, Sem.run_pure]
  · rename_i t l c hop
    refine OpOk.ofM (evMakeSlice_ok R hT (R.val l) (R.val c) h) ?_
    intro v w' hr
    rw [execOp, hop]
    simp only [Sem.run_bind, hr, Result.andThen_ok, Sem.run_pure]
  · rename_i t x lo hi hop
    obtain ⟨av, v, h1, h2, h3⟩ := evSlice_ok hT R.objs h (R.val x) (cut_val R lo) (cut_val R hi)
    refine OpOk.pure R (v := v) ?_ h2 h1
    rw [execOp, hop]
    simp only [Option.map_none, Sem.run_bind, h3, Result.andThen_ok, Sem.run_pure]
  · rename_i s x f hop
    obtain ⟨av, v, h1, h2, h3⟩ := evFieldAddr_ok hT h (R.val x)
    refine OpOk.pure R (v := v) ?_ h2 h1
    rw [execOp, hop]
    simp only [Sem.run_bind, h3, Result.andThen_ok, Sem.run_pure]
  · rename_i s x f hop
    obtain ⟨av, v, h1, h2, h3⟩ := evPart_ok hT h (R.val x)
    refine OpOk.pure R (v := v) ?_ h2 h1
    rw [execOp, hop]
    simp only [Sem.run_bind, h3, Result.andThen_ok, Sem.run_pure]
  · rename_i t x i hop
    obtain ⟨av, v, h1, h2, h3⟩ := evIndexAddr_ok hT R.objs h (R.val x) (R.val i)
    refine OpOk.pure R (v := v) ?_ h2 h1
    rw [execOp, hop]
    simp only [Sem.run_bind, h3, Result.andThen_ok, Sem.run_pure]
  · rename_i t x i hop
    obtain ⟨av, v, h1, h2, h3⟩ := evIndex_ok hT h (R.val x) (R.val i)
    refine OpOk.pure R (v := v) ?_ h2 h1
    rw [execOp, hop]
    simp only [Sem.run_bind, h3, Result.andThen_ok, Sem.run_pure]
  · rename_i f fi cs hop
    split at h <;> try (cases h; done)
    rename_i g ids hfi hids
    have hfi' : fi = #[] := Array.ext' hfi
    subst hfi'
    have hp := ptrIds_ok (μ := μ) (w := w) (V := V) cs.toList ids (fun x _ => R.val x) hids
    refine OpOk.pure R (v := .func (.func g) #[] (cs.map a.eval)) ?_ (AVR.mk1 (c := .clo g ids) trivial ⟨cs.toList.map a.eval, by rw [← Array.toList_map], hp⟩) h
    rw [execOp, hop]
    simp [Instr.makeFunc]
  · rename_i x i hop
    split at h <;> try (cases h; done)
    rename_i l hx
    split at h <;> try (cases h; done)
    rename_i ag cs hl
    have hv := R.val x
    rw [hx] at hv
    obtain ⟨vs, hvs, htup⟩ := hv
    obtain ⟨v, hv1, hv2⟩ := htup.get hl
    refine OpOk.pure R (v := v) ?_ hv2 h
    rw [execOp, hop]
    simp [hvs, Instr.extract, hv1]
  · rename_i c hop
    split at h <;> try (cases h; done)
    · rename_i hcal
      split at h <;> try (cases h; done)
      rename_i x t hargs htys
      obtain ⟨av, v, h1, h2, h3⟩ := evLen_ok (P := P) (ty := o.type) hT h (R.val x)
      refine OpOk.pure R (v := v) ?_ h2 h1
      rw [execOp, hop]
      simp [resolve, hcal, invoke, builtin, toList_one hargs, toList_one htys, h3]
    · rename_i hcal
      split at h <;> try (cases h; done)
      rename_i x z t u hargs htys
      split at h <;> try (cases h; done)
      rename_i tu htu
      split at h <;> try (cases h; done)
      rename_i e2 hku
      refine OpOk.ofM (evAppend_ok (ty := o.type) R hT htu hku (R.val x) (R.val z) h) ?_
      intro v w' hr
      rw [execOp, hop]
      simp [resolve, hcal, invoke, builtin, toList_two hargs, toList_two htys, hr]
    · rename_i hcal
      split at h <;> try (cases h; done)
      rename_i x z hargs
      obtain ⟨av, v, h1, h2, h3⟩ := evMinMax_ok (P := P) h (R.val x) (R.val z)
      refine OpOk.pure R (v := v) ?_ h2 h1
      rw [execOp, hop]
      simp only [cond_false] at h3
      simp [resolve, hcal, invoke, builtin, toList_two hargs, Builtin.min_, h3]
    · rename_i hcal
      split at h <;> try (cases h; done)
      rename_i x z hargs
      obtain ⟨av, v, h1, h2, h3⟩ := evMinMax_ok (P := P) h (R.val x) (R.val z)
      refine OpOk.pure R (v := v) ?_ h2 h1
      rw [execOp, hop]
      simp only [cond_true] at h3
      simp [resolve, hcal, invoke, builtin, toList_two hargs, Builtin.max_, h3]
  · cases h

end vals
end Go.Fw

namespace Go.Fw
open Go

/-! ## contracts -/
def fpOf (pl : Places) : List Nat := pl.filterMap (·.map Prod.fst)

@[reducible] def posts : List PSh → List PSh
  | [] => []
  | .val _ _ :: ps => posts ps
  | .ptr s :: ps => .ptr s :: posts ps
  | .brw e :: ps => .brw e :: posts ps
  | .net h ns :: ps => .net h ns :: posts ps
  | .also _ :: ps => posts ps

def postVals : List PSh → List Value → List Value
  | .val _ _ :: ps, _ :: vs => postVals ps vs
  | .ptr _ :: ps, v :: vs => v :: postVals ps vs
  | .brw _ :: ps, v :: vs => v :: postVals ps vs
  | .net _ _ :: ps, v :: vs => v :: postVals ps vs
  | .also _ :: ps, _ :: vs => postVals ps vs
  | _, _ => []

structure Sig where
  args : List PSh
  res : List PSh

def retVal : List Value → Value
  | [v] => v
  | vs => .tuple vs.toArray

structure Moved (w w' : World) (fp fp' : List Nat) : Prop where
  frame : ∀ (b : Nat) o, b ∉ fp → w.heap[b]? = some o → w'.heap[b]? = some o
  sizes : ∀ (b : Nat) vs ty fr, w.heap[b]? = some (.cells vs ty fr) → ∃ vs' ty' fr', w'.heap[b]? = some (.cells vs' ty' fr') ∧ vs'.size = vs.size
  grow : w.heap.size ≤ w'.heap.size
  quiet : Quiet w w'
  fresh : ∀ b ∈ fp', b ∈ fp ∨ w.heap.size ≤ b
  there : ∀ b ∈ fp', b < w'.heap.size

def Sh.owns : Sh → Nat
  | .own _ => 1
  | .pair a b => a.owns + b.owns
  | _ => 0

/-- the places of what is lent to be written -/
def rootsOf : List PSh → Places → Places
  | [], _ => []
  | .val _ s :: ps, pl => rootsOf ps (pl.drop s.owns)
  | .ptr s :: ps, pl => pl.head?.getD none :: rootsOf ps (pl.drop (s.owns + 1))
  | .brw _ :: ps, pl => pl.head?.getD none :: rootsOf ps (pl.drop 1)
  | .net _ ns :: ps, pl => pl.take ns.length ++ rootsOf ps (pl.drop (ns.length + (netSh ns).owns))
  | .also _ :: ps, pl => rootsOf ps pl

/-- what is named beside, by its place -/
def AlsoP (pl : Places) : List PSh → List Value → Prop
  | .also k :: ps, v :: vs => (∃ b, pl[k]? = some (some (b, 0)) ∧ v = .pointer (some ⟨b, 0, none⟩)) ∧ AlsoP pl ps vs
  | _ :: ps, _ :: vs => AlsoP pl ps vs
  | _, _ => True

/-- called with values that read as x, the function hands back what reads as y -/
def Con (P : Program) (g : FuncId) (sig : Sig) (x : ElL sig.args) (y : ElL sig.res × ElL (posts sig.args)) : Prop :=
  ∀ (w : World) (U : Nat → Prop) (vs : List Value) (pl : Places), HoldsL w U sig.args x vs pl → AlsoP pl sig.args vs → (fpOf pl).Nodup → (∀ b ∈ fpOf pl, U b) → (∀ b, U b → b < w.heap.size) →
    Calls P g vs.toArray w fun e w' => ∃ rs p1 p2, e = .returned (retVal rs) ∧
      HoldsL w' (fun b => (U b ∧ b ∉ fpOf pl) ∨ b ∈ fpOf (p1 ++ p2)) sig.res y.1 rs p1 ∧
      HoldsL w' (fun b => (U b ∧ b ∉ fpOf pl) ∨ b ∈ fpOf (p1 ++ p2)) (posts sig.args) y.2 (postVals sig.args vs) p2 ∧
      (fpOf (p1 ++ p2)).Nodup ∧ rootsOf (posts sig.args) p2 = rootsOf sig.args pl ∧ Moved w w' (fpOf pl) (fpOf (p1 ++ p2))

structure Ent (P : Program) where
  g : FuncId
  sig : Sig
  F : ElL sig.args → Option (ElL sig.res × ElL (posts sig.args))
  enter : ∀ args w, (callFunc g args).run P w = .ok (.enter g args) w
  ok : ∀ x y, F x = some y → Con P g sig x y

/-- is it this function value that the contract speaks of? -/
def fits : List PSh → List AV → Bool
  | .net (.c f _) _ :: ps, a :: as => (match a.one with
    | some (.clo g _) => Nat.beq f g
    | some (.fn g) => Nat.beq f g
    | _ => false) && fits ps as
  | _ :: ps, _ :: as => fits ps as
  | [], [] => true
  | _, _ => false

def findEnt {P : Program} : List (Ent P) → FuncId → List AV → Option (Ent P)
  | [], _, _ => none
  | e :: l, g, as => cond (Nat.beq e.g g && fits e.sig.args as) (some e) (findEnt l g as)

theorem findEnt_g {P : Program} : ∀ {env : List (Ent P)} {g : FuncId} {as : List AV} {e : Ent P}, findEnt env g as = some e → e.g = g
  | [], _, _, _, h => by cases h
  | e :: l, g, as, e', h => by
    simp only [findEnt] at h
    cases hb : Nat.beq e.g g && fits e.sig.args as with
    | true =>
      rw [hb] at h
      cases h
      simp only [Bool.and_eq_true] at hb
      exact Nat.eq_of_beq_eq_true hb.1
    | false => rw [hb] at h; exact findEnt_g h

/-! ### what does not lean on the shared memory -/
def Sh.noSl : Sh → Bool
  | .sl _ => false
  | .own e => e.flat
  | .pair a b => a.noSl && b.noSl
  | _ => true
def noSlL (ps : List PSh) : Bool := ps.all fun p => p.sh.noSl

theorem Reads.flat {w : World} {V V' : Nat → Prop} : ∀ (s : Sh) (x : El s) (cs : List Value), s.flat = true → Reads w V s x cs → Reads w V' s x cs
  | .int _, _, _, _, h => h
  | .bool, _, _, _, h => h
  | .str, _, _, _, h => h
  | .sl _, _, _, hf, _ => by cases hf
  | .own _, _, _, hf, _ => by cases hf
  | .pair a b, _, _, hf, ⟨c1, c2, h, h1, h2⟩ => by
    simp only [Sh.flat, Bool.and_eq_true] at hf
    exact ⟨c1, c2, h, Reads.flat a _ _ hf.1 h1, Reads.flat b _ _ hf.2 h2⟩
  | .unit, _, _, _, h => h

theorem HoldsS.noSl {w : World} {V V' : Nat → Prop} : ∀ (s : Sh) (x : El s) (cs : List Value) (pl : Places), s.noSl = true → HoldsS w V s x cs pl → HoldsS w V' s x cs pl
  | .int _, _, _, _, _, h => h
  | .bool, _, _, _, _, h => h
  | .str, _, _, _, _, h => h
  | .sl _, _, _, _, hf, _ => by cases hf
  | .own e, _, _, _, hf, ⟨c, m, h1, h2, a, cap, h3, h4, h5⟩ => by
    refine ⟨c, m, h1, h2, a, cap, h3, h4, ?_⟩
    cases m with
    | none => exact h5
    | some p =>
      obtain ⟨b, o⟩ := p
      obtain ⟨g1, vs, ty, fr, g2, g3, g4, g5⟩ := h5
      exact ⟨g1, vs, ty, fr, g2, g3, g4, RowsR.mono (fun x cs hx => Reads.flat e x cs hf hx) _ _ g5⟩
  | .pair a b, _, _, _, hf, ⟨c1, c2, p1, p2, h, hp, h1, h2⟩ => by
    simp only [Sh.noSl, Bool.and_eq_true] at hf
    exact ⟨c1, c2, p1, p2, h, hp, HoldsS.noSl a _ _ _ hf.1 h1, HoldsS.noSl b _ _ _ hf.2 h2⟩
  | .unit, _, _, _, _, h => h

theorem HoldsF.noSl {w : World} {V V' : Nat → Prop} {bs : List Nat} : ∀ (fs : List Fld) (x : El (fldsSh fs)) (cs : List Value) (pl : Places), (fldsSh fs).noSl = true → HoldsF w V bs fs x cs pl → HoldsF w V' bs fs x cs pl
  | [], _, _, _, _, h => h
  | .s sh :: r, _, _, _, hf, ⟨c1, c2, p1, p2, h, hp, h1, h2⟩ => by
    simp only [Sh.noSl, Bool.and_eq_true] at hf
    exact ⟨c1, c2, p1, p2, h, hp, HoldsS.noSl sh _ _ _ hf.1 h1, HoldsF.noSl r _ _ _ hf.2 h2⟩
  | .p _ :: r, _, _, _, hf, ⟨b, c2, h1, h2, h3⟩ => ⟨b, c2, h1, h2, HoldsF.noSl r _ _ _ hf h3⟩
  | .c _ _ :: r, _, _, _, hf, ⟨b, c2, h1, h2, h3⟩ => ⟨b, c2, h1, h2, HoldsF.noSl r _ _ _ hf h3⟩

theorem HoldsN.noSl {w : World} {V V' : Nat → Prop} {bs : List Nat} : ∀ (ns : List Nd) (x : El (netSh ns)) (bl : List Nat) (pl : Places), (netSh ns).noSl = true → HoldsN w V bs ns x bl pl → HoldsN w V' bs ns x bl pl
  | [], _, _, _, _, h => h
  | n :: r, _, _, _, hf, ⟨b, bl', vs, ty, fr, p1, p2, h1, h2, h3, h4, h5, h6⟩ => by
    simp only [Sh.noSl, Bool.and_eq_true] at hf
    exact ⟨b, bl', vs, ty, fr, p1, p2, h1, h2, h3, h4, HoldsF.noSl n.fs _ _ _ hf.1 h5, HoldsN.noSl r _ _ _ hf.2 h6⟩

theorem HoldsP.noSl {w : World} {V V' : Nat → Prop} (p : PSh) (x : El p.sh) (v : Value) (pl : Places) (hf : p.sh.noSl = true) (h : HoldsP w V p x v pl) : HoldsP w V' p x v pl := by
  cases p with
  | val agg s => obtain ⟨vs, h1, h2, h3⟩ := h; exact ⟨vs, h1, h2, HoldsS.noSl s _ _ _ hf h3⟩
  | ptr s => obtain ⟨b, vs, ty, fr, q, h1, h2, h3, h4, h5⟩ := h; exact ⟨b, vs, ty, fr, q, h1, h2, h3, h4, HoldsS.noSl s _ _ _ hf h5⟩
  | brw e =>
    obtain ⟨m, h1, h2⟩ := h
    obtain ⟨_, m', _, h4, h5⟩ := HoldsS.noSl (w := w) (V := V) (V' := V') (.own e) x [v] [m] hf ⟨v, m, rfl, rfl, h2⟩
    rename_i c h3
    cases h3; cases h4
    exact ⟨m, h1, h5⟩
  | net hd ns =>
    obtain ⟨bs, q, h1, h2, h3⟩ := h
    exact ⟨bs, q, h1, h2, HoldsN.noSl ns _ _ _ hf h3⟩
  | also k => exact h

theorem HoldsL.noSl {w : World} {V V' : Nat → Prop} : ∀ (ps : List PSh) (x : ElL ps) (vs : List Value) (pl : Places), noSlL ps = true → HoldsL w V ps x vs pl → HoldsL w V' ps x vs pl
  | [], _, _, _, _, h => h
  | p :: ps, x, vs, pl, hf, ⟨v, us, p1, p2, h1, h2, h3, h4⟩ => by
    simp only [noSlL, List.all_cons, Bool.and_eq_true] at hf
    exact ⟨v, us, p1, p2, h1, h2, HoldsP.noSl p _ _ _ hf.1 h3, HoldsL.noSl ps _ _ _ hf.2 h4⟩

theorem HoldsS.same {w w' : World} {V V' : Nat → Prop} (h : Same V V' w w') : ∀ (s : Sh) (x : El s) (cs : List Value) (pl : Places), HoldsS w V s x cs pl →
    (∀ (b : Nat) x, b ∈ fpOf pl → w.heap[b]? = some x → w'.heap[b]? = some x) → HoldsS w' V' s x cs pl
  | .int _, _, _, _, hh, _ => hh
  | .bool, _, _, _, hh, _ => hh
  | .str, _, _, _, hh, _ => hh
  | .sl e, _, _, _, ⟨⟨c, hc, hs⟩, hp⟩, _ => ⟨⟨c, hc, SliceR.same h (Reads.same h e) hs⟩, hp⟩
  | .own e, _, _, _, ⟨c, m, h1, h2, a, cap, h3, h4, h5⟩, hb => by
    refine ⟨c, m, h1, h2, a, cap, h3, h4, ?_⟩
    cases m with
    | none => exact h5
    | some p =>
      obtain ⟨b, o⟩ := p
      obtain ⟨g1, vs, ty, fr, g2, g3, g4, g5⟩ := h5
      exact ⟨g1, vs, ty, fr, hb b _ (by rw [h2]; simp [fpOf]) g2, g3, g4, RowsR.mono (fun x cs hx => Reads.same h e x cs hx) _ _ g5⟩
  | .pair a b, _, _, _, ⟨c1, c2, p1, p2, hc, hp, h1, h2⟩, hb => by
    subst hp
    exact ⟨c1, c2, p1, p2, hc, rfl, HoldsS.same h a _ _ _ h1 (fun b x hm => hb b x (by simp only [fpOf, List.filterMap_append, List.mem_append]; exact .inl hm)),
      HoldsS.same h b _ _ _ h2 (fun b x hm => hb b x (by simp only [fpOf, List.filterMap_append, List.mem_append]; exact .inr hm))⟩
  | .unit, _, _, _, hh, _ => hh

theorem fpOf_append (a b : Places) : fpOf (a ++ b) = fpOf a ++ fpOf b := by simp [fpOf]

theorem HoldsF.same {w w' : World} {V V' : Nat → Prop} {bs : List Nat} (h : Same V V' w w') : ∀ (fs : List Fld) (x : El (fldsSh fs)) (cs : List Value) (pl : Places), HoldsF w V bs fs x cs pl →
    (∀ (b : Nat) x, b ∈ fpOf pl → w.heap[b]? = some x → w'.heap[b]? = some x) → HoldsF w' V' bs fs x cs pl
  | [], _, _, _, hh, _ => hh
  | .s sh :: r, _, _, _, ⟨c1, c2, p1, p2, hc, hp, h1, h2⟩, hb => by
    subst hp
    rw [fpOf_append] at hb
    exact ⟨c1, c2, p1, p2, hc, rfl, HoldsS.same h sh _ _ _ h1 (fun b x hm => hb b x (List.mem_append.2 (.inl hm))), HoldsF.same h r _ _ _ h2 (fun b x hm => hb b x (List.mem_append.2 (.inr hm)))⟩
  | .p _ :: r, _, _, _, ⟨b, c2, h1, h2, h3⟩, hb => ⟨b, c2, h1, h2, HoldsF.same h r _ _ _ h3 hb⟩
  | .c _ _ :: r, _, _, _, ⟨b, c2, h1, h2, h3⟩, hb => ⟨b, c2, h1, h2, HoldsF.same h r _ _ _ h3 hb⟩

theorem HoldsN.same {w w' : World} {V V' : Nat → Prop} {bs : List Nat} (h : Same V V' w w') : ∀ (ns : List Nd) (x : El (netSh ns)) (bl : List Nat) (pl : Places), HoldsN w V bs ns x bl pl →
    (∀ (b : Nat) x, b ∈ bl → w.heap[b]? = some x → w'.heap[b]? = some x) →
    (∀ (b : Nat) x, b ∈ fpOf pl → w.heap[b]? = some x → w'.heap[b]? = some x) → HoldsN w' V' bs ns x bl pl
  | [], _, _, _, hh, _, _ => hh
  | n :: r, _, _, _, ⟨b, bl', vs, ty, fr, p1, p2, h1, h2, h3, h4, h5, h6⟩, hl, hb => by
    subst h1 h2
    rw [fpOf_append] at hb
    exact ⟨b, bl', vs, ty, fr, p1, p2, rfl, rfl, hl b _ (by simp) h3, h4, HoldsF.same h n.fs _ _ _ h5 (fun b x hm => hb b x (List.mem_append.2 (.inl hm))),
      HoldsN.same h r _ _ _ h6 (fun b x hm => hl b x (by simp [hm])) (fun b x hm => hb b x (List.mem_append.2 (.inr hm)))⟩

theorem fpOf_places (bs : List Nat) : fpOf (placesOf bs) = bs := by
  induction bs with
  | nil => rfl
  | cons b bs ih => simp only [fpOf, placesOf, List.map_cons, List.filterMap_cons, Option.map_some] at ih ⊢; rw [ih]

theorem HoldsP.same {w w' : World} {V V' : Nat → Prop} (h : Same V V' w w') (p : PSh) (x : El p.sh) (v : Value) (pl : Places) (hh : HoldsP w V p x v pl)
    (hb : ∀ (b : Nat) x, b ∈ fpOf pl → w.heap[b]? = some x → w'.heap[b]? = some x) : HoldsP w' V' p x v pl := by
  cases p with
  | val agg s => obtain ⟨vs, h1, h2, h3⟩ := hh; exact ⟨vs, h1, h2, HoldsS.same h s _ _ _ h3 hb⟩
  | ptr s =>
    obtain ⟨b, vs, ty, fr, q, h1, h2, h3, h4, h5⟩ := hh
    subst h2
    exact ⟨b, vs, ty, fr, q, h1, rfl, hb b _ (by simp [fpOf]) h3, h4, HoldsS.same h s _ _ _ h5 (fun b x hm => hb b x (by simp only [fpOf, List.filterMap_cons, Option.map_some, List.mem_cons]; exact .inr hm))⟩
  | brw e =>
    obtain ⟨m, h1, h2⟩ := hh
    subst h1
    have := HoldsS.same (w := w) (V := V) h (.own e) x [v] [m] ⟨v, m, rfl, rfl, h2⟩ hb
    obtain ⟨c, m', h3, h4, h5⟩ := this
    cases h3; cases h4
    exact ⟨m, rfl, h5⟩
  | net hd ns =>
    obtain ⟨bs, q, h1, h2, h3⟩ := hh
    subst h1
    rw [fpOf_append, fpOf_places] at hb
    exact ⟨bs, q, rfl, h2, HoldsN.same h ns _ _ _ h3 (fun b x hm => hb b x (List.mem_append.2 (.inl hm))) (fun b x hm => hb b x (List.mem_append.2 (.inr hm)))⟩
  | also k => exact hh

theorem HoldsL.same {w w' : World} {V V' : Nat → Prop} (h : Same V V' w w') : ∀ (ps : List PSh) (x : ElL ps) (vs : List Value) (pl : Places), HoldsL w V ps x vs pl →
    (∀ (b : Nat) x, b ∈ fpOf pl → w.heap[b]? = some x → w'.heap[b]? = some x) → HoldsL w' V' ps x vs pl
  | [], _, _, _, hh, _ => hh
  | p :: ps, x, vs, pl, ⟨v, us, p1, p2, h1, h2, h3, h4⟩, hb => by
    subst h2
    exact ⟨v, us, p1, p2, h1, rfl, HoldsP.same h p _ _ _ h3 (fun b x hm => hb b x (by simp only [fpOf, List.filterMap_append, List.mem_append]; exact .inl hm)),
      HoldsL.same h ps _ _ _ h4 (fun b x hm => hb b x (by simp only [fpOf, List.filterMap_append, List.mem_append]; exact .inr hm))⟩

end Go.Fw

namespace Go.Fw
open Go

def lookupOb : List (Nat × Ob) → Nat → Option Ob
  | [], _ => none
  | (j, o) :: l, i => cond (Nat.beq j i) (some o) (lookupOb l i)

def lookupPl : List (Nat × Ob) → Places → Nat → Option (Option (Nat × Nat))
  | (j, _) :: l, p :: ps, i => cond (Nat.beq j i) (some p) (lookupPl l ps i)
  | _, _, _ => none

def assign (asg : List (Nat × Ob)) (K : List Nat) (objs : Objs) : Objs := fun i => match lookupOb asg i with
  | some o => some o
  | none => (match objs i with
    | none => none
    | some o => cond (K.contains i) (some .dead) (some o))

def assignMu (asg : List (Nat × Ob)) (plc : Places) (μ : Mu) : Mu := fun i => match lookupPl asg plc i with
  | some p => p
  | none => μ i

theorem beq_iff_true {i j : Nat} : Nat.beq i j = true ↔ i = j := ⟨Nat.eq_of_beq_eq_true, fun h => by subst h; exact Nat.beq_refl _⟩

theorem lookupOb_at : ∀ {asg : List (Nat × Ob)}, (asg.map Prod.fst).Nodup → ∀ {j i : Nat} {o : Ob}, asg[j]? = some (i, o) → lookupOb asg i = some o
  | [], _, j, i, o, h => by simp at h
  | (i', o') :: l, hn, j, i, o, h => by
    simp only [List.map_cons, List.nodup_cons] at hn
    cases j with
    | zero =>
      simp only [List.getElem?_cons_zero, Option.some.injEq, Prod.mk.injEq] at h
      obtain ⟨rfl, rfl⟩ := h
      simp [lookupOb]
    | succ j =>
      have h' : l[j]? = some (i, o) := by simpa using h
      have hne : i' ≠ i := by
        intro e
        subst e
        exact hn.1 (List.mem_map.2 ⟨(i', o), List.mem_of_getElem? h', rfl⟩)
      simp only [lookupOb, beq_false hne, cond_false]
      exact lookupOb_at hn.2 h'

theorem lookupPl_at : ∀ {asg : List (Nat × Ob)} {pls : Places}, (asg.map Prod.fst).Nodup → ∀ {j i : Nat} {o : Ob} {p : Option (Nat × Nat)}, asg[j]? = some (i, o) → pls[j]? = some p → lookupPl asg pls i = some p
  | [], _, _, j, i, o, p, h, _ => by simp at h
  | (i', o') :: l, [], hn, j, i, o, p, h, hp => by simp at hp
  | (i', o') :: l, q :: pls, hn, j, i, o, p, h, hp => by
    simp only [List.map_cons, List.nodup_cons] at hn
    cases j with
    | zero =>
      simp only [List.getElem?_cons_zero, Option.some.injEq, Prod.mk.injEq] at h hp
      obtain ⟨rfl, rfl⟩ := h
      subst hp
      simp [lookupPl]
    | succ j =>
      have h' : l[j]? = some (i, o) := by simpa using h
      have hne : i' ≠ i := by
        intro e
        subst e
        exact hn.1 (List.mem_map.2 ⟨(i', o), List.mem_of_getElem? h', rfl⟩)
      simp only [lookupPl, beq_false hne, cond_false]
      exact lookupPl_at hn.2 h' (by simpa using hp)

theorem lookup_inv : ∀ {asg : List (Nat × Ob)} {pls : Places}, asg.length = pls.length → ∀ {i : Nat} {o : Ob}, lookupOb asg i = some o →
    ∃ (j : Nat) (p : Option (Nat × Nat)), asg[j]? = some (i, o) ∧ pls[j]? = some p ∧ lookupPl asg pls i = some p
  | [], _, _, i, o, h => by simp [lookupOb] at h
  | (i', o') :: l, [], hl, i, o, h => by simp at hl
  | (i', o') :: l, q :: pls, hl, i, o, h => by
    simp only [lookupOb] at h
    by_cases he : i' = i
    · subst he
      simp only [Nat.beq_refl, cond_true, Option.some.injEq] at h
      subst h
      exact ⟨0, q, rfl, rfl, by simp [lookupPl]⟩
    · simp only [beq_false he, cond_false] at h
      obtain ⟨j, p, h1, h2, h3⟩ := lookup_inv (pls := pls) (by simpa using hl) h
      exact ⟨j + 1, p, by simpa using h1, by simpa using h2, by simp [lookupPl, beq_false he, h3]⟩

theorem lookup_none : ∀ {asg : List (Nat × Ob)} {pls : Places} {i : Nat}, lookupOb asg i = none → lookupPl asg pls i = none
  | [], _, _, _ => by simp [lookupPl]
  | (i', o') :: l, [], _, _ => by simp [lookupPl]
  | (i', o') :: l, q :: pls, i, h => by
    simp only [lookupOb] at h
    by_cases he : i' = i
    · subst he; simp at h
    · simp only [beq_false he, cond_false] at h
      simp [lookupPl, beq_false he, lookup_none h]

theorem fpOf_mem {pl : Places} {b x : Nat} {j : Nat} (h : pl[j]? = some (some (b, x))) : b ∈ fpOf pl :=
  List.mem_filterMap.2 ⟨some (b, x), List.mem_of_getElem? h, rfl⟩

theorem fpOf_inj : ∀ {pl : Places}, (fpOf pl).Nodup → ∀ {j j' b x x' : Nat}, pl[j]? = some (some (b, x)) → pl[j']? = some (some (b, x')) → j = j'
  | [], _, j, _, _, _, _, h, _ => by simp at h
  | p :: pl, hn, j, j', b, x, x', h, h' => by
    have hn' : (fpOf pl).Nodup := by
      cases p with
      | none => simpa [fpOf] using hn
      | some q => have := hn; simp only [fpOf, List.filterMap_cons, Option.map_some, List.nodup_cons] at this; exact this.2
    cases j with
    | zero =>
      cases j' with
      | zero => rfl
      | succ j' =>
        simp only [List.getElem?_cons_zero, Option.some.injEq] at h
        subst h
        have := hn
        simp only [fpOf, List.filterMap_cons, Option.map_some, List.nodup_cons] at this
        exact absurd (fpOf_mem (pl := pl) (by simpa using h')) this.1
    | succ j =>
      cases j' with
      | zero =>
        simp only [List.getElem?_cons_zero, Option.some.injEq] at h'
        subst h'
        have := hn
        simp only [fpOf, List.filterMap_cons, Option.map_some, List.nodup_cons] at this
        exact absurd (fpOf_mem (pl := pl) (by simpa using h)) this.1
      | succ j' =>
        have := fpOf_inj hn' (j := j) (j' := j') (b := b) (x := x) (x' := x') (by simpa using h) (by simpa using h')
        rw [this]

section call
variable {P : Program} {o : Oper} {w0 : World} {U : Nat → Prop} {S : Own} {a : Act} {w : World} {V : Nat → Prop} {μ : Mu} {slots : Nat → AV} {objs : Objs} {β : Type} {y : β}

theorem RelM.called (R : RelM w0 U S ⟨slots, objs⟩ a w V μ) {w' : World} {K fp fp' : List Nat} {asg : List (Nat × Ob)} {plc : Places}
    (hK : ∀ i ∈ K, ∃ o, objs i = some o ∧ o.wr = true) (hfpK : ∀ b ∈ fp, ∃ i ∈ K, ∃ x, μ i = some (b, x))
    (hM : Moved w w' fp fp') (hlen : asg.length = plc.length) (hfp' : ∀ b, b ∈ fpOf plc ↔ b ∈ fp') (hpnd : (fpOf plc).Nodup)
    (hasg : ∀ (j i : Nat) ob p, asg[j]? = some (i, ob) → plc[j]? = some p → ob.wr = true ∧ (objs i = none ∨ (i ∈ K ∧ (∃ o, objs i = some o ∧ Alike o ob) ∧ μ i = p)))
    (hnm : ∀ (j i k : Nat) cs, asg[j]? = some (i, .var (some k) cs) → objs i ≠ none)
    (hO : ∀ (j i : Nat) ob, asg[j]? = some (i, ob) → ObR w' (fun b => (V b ∧ b ∉ fp) ∨ b ∈ fp') (assignMu asg plc μ) (assign asg K objs) i ob) :
    RelM w0 U S ⟨slots, assign asg K objs⟩ a w' (fun b => (V b ∧ b ∉ fp) ∨ b ∈ fp') (assignMu asg plc μ) ∧
      Keeps V (fun b => (V b ∧ b ∉ fp) ∨ b ∈ fp') w w' μ (assignMu asg plc μ) objs (assign asg K objs) := by
  have hfpV : ∀ b ∈ fp, V b := by
    intro b hb
    obtain ⟨i, hi, x, hx⟩ := hfpK b hb
    obtain ⟨o1, h1, h2⟩ := hK i hi
    exact R.inV i o1 b x h1 h2 hx
  have hfporig : ∀ b ∈ fp, b ∈ S ∨ w0.heap.size ≤ b := by
    intro b hb
    obtain ⟨i, hi, x, hx⟩ := hfpK b hb
    obtain ⟨o1, h1, h2⟩ := hK i hi
    exact R.orig i o1 b x h1 h2 hx
  -- an object behind the call
  have get : ∀ i ob, assign asg K objs i = some ob → (∃ (j : Nat) (p : Option (Nat × Nat)), asg[j]? = some (i, ob) ∧ plc[j]? = some p ∧ assignMu asg plc μ i = p) ∨
      (lookupOb asg i = none ∧ assignMu asg plc μ i = μ i ∧ ((i ∈ K ∧ ob = .dead) ∨ (i ∉ K ∧ objs i = some ob))) := by
    intro i ob h
    unfold assign at h
    cases hl : lookupOb asg i with
    | some o1 =>
      rw [hl] at h
      cases h
      obtain ⟨j, p, h1, h2, h3⟩ := lookup_inv hlen hl
      exact .inl ⟨j, p, h1, h2, by simp [assignMu, h3]⟩
    | none =>
      rw [hl] at h
      simp only at h
      refine .inr ⟨rfl, by simp [assignMu, lookup_none hl], ?_⟩
      cases ho : objs i with
      | none => rw [ho] at h; cases h
      | some o1 =>
        rw [ho] at h
        simp only at h
        cases hc : K.contains i with
        | true => rw [hc] at h; cases h; exact .inl ⟨List.contains_iff_mem.1 hc, rfl⟩
        | false =>
          rw [hc] at h; cases h
          exact .inr ⟨fun hm => (by rw [List.contains_iff_mem.2 hm] at hc; cases hc), rfl⟩
  have hsame : Same V (fun b => (V b ∧ b ∉ fp) ∨ b ∈ fp') w w' := by
    intro b x hv hb
    have hnfp : b ∉ fp := fun h => hv (hfpV b h)
    refine ⟨fun h => ?_, hM.frame b x hnfp hb⟩
    rcases h with h | h
    · exact hv h.1
    · rcases hM.fresh b h with h | h
      · exact hnfp h
      · have := (Array.getElem?_eq_some_iff.1 hb).1
        omega
  have hold : ∀ i ob, objs i = some ob → ob.wr = true → i ∉ K → ∀ b x, μ i = some (b, x) → b ∉ fp ∧ b ∉ fp' := by
    intro i ob h1 h2 h3 b x hx
    have hnfp : b ∉ fp := by
      intro hb
      obtain ⟨i2, hi2, x2, hx2⟩ := hfpK b hb
      obtain ⟨o2, g1, g2⟩ := hK i2 hi2
      have := R.inj i i2 ob o2 b x x2 h1 g1 h2 g2 hx hx2
      subst this
      exact h3 hi2
    refine ⟨hnfp, fun hb => ?_⟩
    rcases hM.fresh b hb with h | h
    · exact hnfp h
    · have := R.vlt b (R.inV i ob b x h1 h2 hx)
      omega
  have hkeep : Keeps V (fun b => (V b ∧ b ∉ fp) ∨ b ∈ fp') w w' μ (assignMu asg plc μ) objs (assign asg K objs) := by
    refine ⟨hsame, fun i hi => ?_, fun i e xs wr hi hi' => ?_, fun i cs nm hi hi' => ?_⟩
    · unfold assign
      cases hl : lookupOb asg i with
      | some o1 => rfl
      | none =>
        simp only
        cases ho : objs i with
        | none => rw [ho] at hi; cases hi
        | some o1 => simp only; cases K.contains i <;> rfl
    · rcases get i _ hi' with ⟨j, p, h1, h2, h3⟩ | ⟨_, h2, h3⟩
      · obtain ⟨_, hnone | ⟨hiK, ⟨o1, g1, g2⟩, g3⟩⟩ := hasg j i _ p h1 h2
        · rw [hnone] at hi; cases hi
        · cases o1 with
          | row e' xs' wr' =>
            obtain ⟨rfl, hl⟩ := g2
            exact ⟨⟨xs', wr', g1, hl⟩, by rw [h3, g3], fun b o vs ty fr _ hb => hM.sizes b vs ty fr hb⟩
          | _ => exact g2.elim
      · rcases h3 with ⟨_, h3⟩ | ⟨_, h3⟩
        · cases h3
        · exact ⟨⟨xs, wr, h3, rfl⟩, h2, fun b o vs ty fr _ hb => hM.sizes b vs ty fr hb⟩
    · rcases get i _ hi' with ⟨j, p, h1, h2, h3⟩ | ⟨_, h2, h3⟩
      · obtain ⟨_, hnone | ⟨hiK, ⟨o1, g1, g2⟩, g3⟩⟩ := hasg j i _ p h1 h2
        · rw [hnone] at hi; cases hi
        · cases o1 with
          | var nm' cs' =>
            have g2 : nm' = nm := g2
            subst g2
            exact ⟨⟨cs', g1⟩, by rw [h3, g3]⟩
          | _ => exact g2.elim
      · rcases h3 with ⟨_, h3⟩ | ⟨_, h3⟩
        · cases h3
        · exact ⟨⟨cs, h3⟩, h2⟩
  refine ⟨R.step hkeep ?_ ?_ ?_ ?_ hM.sizes ⟨hM.grow, hM.quiet⟩ ?_ ?_ ?_, hkeep⟩
  · intro i ob hi
    rcases get i ob hi with ⟨j, p, h1, h2, h3⟩ | ⟨_, h2, h3⟩
    · exact hO j i ob h1
    · rcases h3 with ⟨_, rfl⟩ | ⟨hnK, h3⟩
      · trivial
      · refine (R.objs i ob h3).keeps hkeep h2 ?_
        intro b x hm hd
        have hex : ∃ z, w.heap[b]? = some z ∧ b ∉ fp := by
          cases hw1 : ob.wr with
          | true =>
            have hnfp := (hold i ob h3 hw1 hnK b x hm).1
            have := R.vlt b (R.inV i ob b x h3 hw1 hm)
            exact ⟨_, Array.getElem?_eq_getElem this, hnfp⟩
          | false =>
            cases ob with
            | var nm cs => cases hw1
            | dead => exact absurd rfl hd
            | row e xs wr =>
              have hw1 : wr = false := hw1
              rcases R.objs i _ h3 with ⟨k1, _⟩ | ⟨b2, o2, vs2, ty2, fr2, k1, k2, _, k4, _⟩
              · have k1 : μ i = none := k1; rw [hm] at k1; cases k1
              · have k1 : μ i = some (b2, o2) := k1
                rw [hm] at k1
                cases k1
                exact ⟨_, k2, fun h => k4 hw1 (hfpV b h)⟩
        obtain ⟨z, hz, hnfp⟩ := hex
        rw [hz]; exact hM.frame b z hnfp hz
  · intro i i' o1 o2 b x x' h1 h2 h3 h4 h5 h6
    rcases get i o1 h1 with ⟨j, p, g1, g2, g3⟩ | ⟨_, g2, g3⟩
    · rcases get i' o2 h2 with ⟨j', p', k1, k2, k3⟩ | ⟨_, k2, k3⟩
      · rw [g3] at h5
        rw [k3] at h6
        subst h5 h6
        have := fpOf_inj hpnd g2 k2
        subst this
        rw [g1] at k1
        cases k1
        rfl
      · rw [g3] at h5
        subst h5
        have hb := (hfp' b).1 (fpOf_mem g2)
        rcases k3 with ⟨_, rfl⟩ | ⟨hnK, k3⟩
        · cases h4
        · rw [k2] at h6
          exact absurd hb (hold i' o2 k3 h4 hnK b x' h6).2
    · rcases g3 with ⟨_, rfl⟩ | ⟨hnK, g3⟩
      · cases h3
      · rw [g2] at h5
        rcases get i' o2 h2 with ⟨j', p', k1, k2, k3⟩ | ⟨_, k2, k3⟩
        · rw [k3] at h6
          subst h6
          exact absurd ((hfp' b).1 (fpOf_mem k2)) (hold i o1 g3 h3 hnK b x h5).2
        · rcases k3 with ⟨_, rfl⟩ | ⟨hnK', k3⟩
          · cases h4
          · rw [k2] at h6
            exact R.inj i i' o1 o2 b x x' g3 k3 h3 h4 h5 h6
  · intro i o1 b x h1 h2 h3
    rcases get i o1 h1 with ⟨j, p, g1, g2, g3⟩ | ⟨_, g2, g3⟩
    · rw [g3] at h3
      subst h3
      have hb := (hfp' b).1 (fpOf_mem g2)
      refine ⟨?_, .inr hb⟩
      rcases hM.fresh b hb with h | h
      · exact hfporig b h
      · exact .inr (Nat.le_trans R.grow h)
    · rcases g3 with ⟨_, rfl⟩ | ⟨hnK, g3⟩
      · cases h2
      · rw [g2] at h3
        exact ⟨R.orig i o1 b x g3 h2 h3, .inl ⟨R.inV i o1 b x g3 h2 h3, (hold i o1 g3 h2 hnK b x h3).1⟩⟩
  · intro b z hS h0 hz
    refine hM.frame b z ?_ hz
    intro hb
    rcases hfporig b hb with h | h
    · exact hS h
    · have := (Array.getElem?_eq_some_iff.1 h0).1
      omega
  · intro b hb
    rcases hb with hb | hb
    · exact Nat.lt_of_lt_of_le (R.vlt b hb.1) hM.grow
    · exact hM.there b hb
  · intro b hb hU hS
    refine .inl ⟨hb, fun h => ?_⟩
    rcases hfporig b h with h | h
    · exact hS h
    · have := R.ult b hU
      omega
  · intro i k cs hi hc
    rcases get i _ hc with ⟨j, p, g1, g2, g3⟩ | ⟨_, g2, g3⟩
    · exact hnm j i k cs g1 hi
    · rcases g3 with ⟨_, g3⟩ | ⟨hnK, g3⟩
      · cases g3
      · rw [hi] at g3; cases g3

end call
end Go.Fw

namespace Go.Fw
open Go

def enumT (tag : Bool) : Nat → List Ob → List (Bool × (Nat × Ob))
  | _, [] => []
  | n, o :: l => (tag, (n, o)) :: enumT tag (n + 1) l

def nmOf (objs : Nat → Option Ob) (id : Nat) : Option Nat := match objs id with
  | some (.var nm _) => nm
  | _ => none

def zipT : List Nat → List Ob → List (Bool × (Nat × Ob))
  | i :: is, o :: os => (true, (i, o)) :: zipT is os
  | _, _ => []

def noName : Ob → Bool
  | .var (some _) _ => false
  | _ => true

/-- what the lent variables and rows hold behind a call -/
def postT (objs : Nat → Option Ob) : (ps : List PSh) → List AV → ElL (posts ps) → Nat → List (Bool × (Nat × Ob))
  | [], _, _, _ => []
  | .val _ _ :: ps, _ :: as, y, n => postT objs ps as y n
  | .ptr s :: ps, a :: as, y, n => (match a.ptrId with
    | some id => (true, (id, .var (nmOf objs id) (mintS n s y.1).1)) :: (enumT false n (mintS n s y.1).2 ++ postT objs ps as y.2 (n + (mintS n s y.1).2.length))
    | none => [])
  | .brw e :: ps, a :: as, y, n => (match a.ownId with
    | some id => (true, (id, .row e y.1 true)) :: postT objs ps as y.2 n
    | none => [])
  | .net h ns :: ps, a :: as, y, n => (match a.one with
    | some c => (match findIds objs h ns c with
      | some ids => zipT ids (mintN (fun k => ids.getD k 0) (fun i _ => nmOf objs (ids.getD i 0)) n 0 ns y.1).1 ++
          (enumT false n (mintN (fun k => ids.getD k 0) (fun i _ => nmOf objs (ids.getD i 0)) n 0 ns y.1).2 ++
            postT objs ps as y.2 (n + (mintN (fun k => ids.getD k 0) (fun i _ => nmOf objs (ids.getD i 0)) n 0 ns y.1).2.length))
      | none => [])
    | none => [])
  | .also _ :: ps, _ :: as, y, n => postT objs ps as y n
  | _, [], _, _ => []

def nodupN : List Nat → Bool
  | [] => true
  | x :: l => !(l.contains x) && nodupN l

def tupOf : List AV → Option (List (Bool × List Cell))
  | [] => some []
  | .cs ag l :: r => (match tupOf r with
    | some t => some ((ag, l) :: t)
    | none => none)
  | _ :: _ => none

def retAV : List AV → Option AV
  | [a] => some a
  | l => (match tupOf l with
    | some t => some (.tup t)
    | none => none)

def ownedIds (l : List (Option Nat)) : List Nat := l.filterMap fun x => x

section evc
variable {β : Type}

def evAfter (sig : Sig) (objs : Objs) (as : List AV) (lent : List Nat) (K : List Nat) (y : ElL sig.res × ElL (posts sig.args)) (n : Nat) (k : AV → Objs → Option β) : Option β :=
  let objs1 := cond (noSlL sig.res && noSlL (posts sig.args)) objs (frz lent objs)
  let r := mintL n sig.res y.1
  let asgT := enumT false n r.2 ++ postT objs sig.args as y.2 (n + r.2.length)
  cond (noAlso sig.res && nodupN (asgT.map fun z => z.2.1) && asgT.all fun z => z.1 || ((objs1 z.2.1).isNone && noName z.2.2))
    (match retAV r.1 with
      | some v => k v (assign (asgT.map fun z => z.2) K objs1)
      | none => none) none

/-- the function that a value is, and the variables that it has caught -/
def calleeOf : AV → Option (FuncId × List Nat)
  | .cs false [.fn g] => some (g, [])
  | .cs false [.clo g ids] => some (g, ids)
  | _ => none

def callArgs (σ : AS) (c : Call) (ids : List Nat) : List AV := c.args.toList.map σ.val ++ ids.map fun i => .cs false [.ptr i 0]

/-- the pointers that are named beside are what they must be -/
def isVar : Option Ob → Bool
  | some (.var _ _) => true
  | _ => false

def alsoOk (objs : Objs) (ow : List (Option Nat)) : List PSh → List AV → Bool
  | .also k :: ps, a :: as => (match a.ptrId, ow[k]? with
    | some i, some (some j) => Nat.beq i j && isVar (objs i)
    | _, _ => false) && alsoOk objs ow ps as
  | _ :: ps, _ :: as => alsoOk objs ow ps as
  | _, _ => true

def evCall {P : Program} (env : List (Ent P)) (c : Call) (σ : AS) (n : Nat) (k : AV → Objs → Option β) : Option β :=
  match c.callee with
  | .value f => (match calleeOf (σ.val f) with
    | some (g, ids) => (match findEnt env g (callArgs σ c ids) with
      | some e => (match packL σ.objs e.sig.args (callArgs σ c ids) with
        | some pk => cond (alsoOk σ.objs pk.owned e.sig.args (callArgs σ c ids) && nodupN (ownedIds pk.owned) && pk.lent.all fun i => !((ownedIds pk.owned).contains i))
            (Option.bind (e.F pk.val) fun y => evAfter e.sig σ.objs (callArgs σ c ids) pk.lent (ownedIds pk.owned) y n k) none
        | none => none)
      | none => none)
    | none => none)
  | _ => none

end evc

theorem nodupN_ok : ∀ {l : List Nat}, nodupN l = true → l.Nodup
  | [], _ => List.nodup_nil
  | x :: l, h => by
    simp only [nodupN, Bool.and_eq_true, Bool.not_eq_true'] at h
    refine List.nodup_cons.2 ⟨fun hm => ?_, nodupN_ok h.2⟩
    rw [List.contains_iff_mem.2 hm] at h
    exact absurd h.1 (by simp)

section aft
variable {P : Program} {o : Oper} {w0 : World} {U : Nat → Prop} {S : Own} {a : Act} {w w' : World} {V W : Nat → Prop} {μ : Mu} {slots : Nat → AV} {objs : Objs} {β : Type} {y : β}

theorem mintS_len {w : World} {V : Nat → Prop} : ∀ (s : Sh) (x : El s) (cs : List Value) (pl : Places) (n : Nat), HoldsS w V s x cs pl → (mintS n s x).2.length = pl.length ∧ pl.length = s.owns
  | .int _, _, _, _, _, ⟨_, h⟩ => by subst h; exact ⟨rfl, rfl⟩
  | .bool, _, _, _, _, ⟨_, h⟩ => by subst h; exact ⟨rfl, rfl⟩
  | .str, _, _, _, _, ⟨_, h⟩ => by subst h; exact ⟨rfl, rfl⟩
  | .sl _, _, _, _, _, ⟨_, h⟩ => by subst h; exact ⟨rfl, rfl⟩
  | .own _, _, _, _, _, ⟨_, _, _, h, _⟩ => by subst h; exact ⟨rfl, rfl⟩
  | .pair a b, x, _, _, n, ⟨c1, c2, p1, p2, _, h, h1, h2⟩ => by
    subst h
    have i1 := mintS_len a x.1 c1 p1 n h1
    have i2 := mintS_len b x.2 c2 p2 (n + (mintS n a x.1).2.length) h2
    simp only [mintS, List.length_append, Sh.owns]
    omega
  | .unit, _, _, _, _, ⟨_, h⟩ => by subst h; exact ⟨rfl, rfl⟩

theorem mintF_len {w : World} {V : Nat → Prop} {bs : List Nat} {loc : Nat → Nat} : ∀ (fs : List Fld) (x : El (fldsSh fs)) (cs : List Value) (pl : Places) (m : Nat), HoldsF w V bs fs x cs pl → (mintF loc m fs x).2.length = pl.length ∧ pl.length = (fldsSh fs).owns
  | [], _, _, _, _, ⟨_, h⟩ => by subst h; exact ⟨rfl, rfl⟩
  | .s sh :: r, x, _, _, m, ⟨c1, c2, p1, p2, _, h, h1, h2⟩ => by
    subst h
    have i1 := mintS_len sh x.1 c1 p1 m h1
    have i2 := mintF_len (loc := loc) r x.2 c2 p2 (m + (mintS m sh x.1).2.length) h2
    simp only [mintF, List.length_append, Sh.owns]
    omega
  | .p _ :: r, x, _, _, m, ⟨_, c2, _, _, h2⟩ => mintF_len (loc := loc) r x c2 _ m h2
  | .c _ _ :: r, x, _, _, m, ⟨_, c2, _, _, h2⟩ => mintF_len (loc := loc) r x c2 _ m h2

theorem mintNs_len {w : World} {V : Nat → Prop} {bs : List Nat} {loc : Nat → Nat} {nmf : Nat → Nd → Option Nat} : ∀ (ns : List Nd) (x : El (netSh ns)) (bl : List Nat) (pl : Places) (m i : Nat), HoldsN w V bs ns x bl pl → (mintN loc nmf m i ns x).2.length = pl.length ∧ pl.length = (netSh ns).owns
  | [], _, _, _, _, _, ⟨_, h⟩ => by subst h; exact ⟨rfl, rfl⟩
  | n :: r, x, _, _, m, i, ⟨_, _, _, _, _, p1, p2, _, h, _, _, h1, h2⟩ => by
    subst h
    have i1 := mintF_len (loc := loc) n.fs x.1 _ p1 m h1
    have i2 := mintNs_len (loc := loc) (nmf := nmf) r x.2 _ p2 (m + (mintF loc m n.fs x.1).2.length) (i + 1) h2
    simp only [mintN, List.length_append, Sh.owns]
    omega

theorem mintP_len (p : PSh) (x : El p.sh) (v : Value) (pl : Places) (n : Nat) (h : HoldsP w V p x v pl) : (mintP n p x).2.length = pl.length := by
  cases p with
  | val agg s => obtain ⟨_, _, _, hh⟩ := h; exact (mintS_len s x _ pl n hh).1
  | ptr s => obtain ⟨_, _, _, _, q, _, rfl, _, _, hh⟩ := h; simp only [mintP, List.length_cons, (mintS_len s x _ q (n + 1) hh).1]
  | brw e => obtain ⟨m, rfl, _⟩ := h; rfl
  | net hd ns =>
    obtain ⟨bs, q, rfl, _, hn⟩ := h
    have h1 := mintNs_len (loc := (n + ·)) (nmf := fun _ nd => nd.nm) ns x bs q (n + ns.length) 0 hn
    have h2 := mintN_len (loc := (n + ·)) (nmf := fun _ nd => nd.nm) ns x (n + ns.length) 0
    simp only [mintP, List.length_append, placesOf, List.length_map, h1.1, h2, hn.length]
  | also k => have h : pl = [] := h; subst h; rfl

theorem mintL_len : ∀ (ps : List PSh) (x : ElL ps) (vs : List Value) (pl : Places) (n : Nat), HoldsL w V ps x vs pl → (mintL n ps x).2.length = pl.length
  | [], _, _, _, _, ⟨_, h⟩ => by subst h; rfl
  | p :: ps, x, vs, pl, n, ⟨v, us, p1, p2, _, h, h1, h2⟩ => by
    subst h
    have i1 := mintP_len p x.1 v p1 n h1
    have i2 := mintL_len ps x.2 us p2 (n + (mintP n p x.1).2.length) h2
    simp only [mintL, List.length_append]
    omega

theorem enumT_length {t : Bool} : ∀ (l : List Ob) (n : Nat), (enumT t n l).length = l.length
  | [], _ => rfl
  | _ :: l, n => by simp [enumT, enumT_length l (n + 1)]

theorem enumT_get {t : Bool} : ∀ (l : List Ob) (n j : Nat) (z : Bool × (Nat × Ob)), (enumT t n l)[j]? = some z → z.1 = t ∧ z.2.1 = n + j ∧ l[j]? = some z.2.2
  | [], n, j, z, h => by simp [enumT] at h
  | o :: l, n, j, z, h => by
    cases j with
    | zero => simp only [enumT, List.getElem?_cons_zero, Option.some.injEq] at h; subst h; exact ⟨rfl, rfl, rfl⟩
    | succ j =>
      obtain ⟨h1, h2, h3⟩ := enumT_get l (n + 1) j z (by simpa [enumT] using h)
      exact ⟨h1, by omega, by simpa using h3⟩

theorem enumT_at {t : Bool} : ∀ (l : List Ob) (n j : Nat) (o : Ob), l[j]? = some o → (enumT t n l)[j]? = some (t, (n + j, o))
  | [], n, j, o, h => by simp at h
  | o' :: l, n, j, o, h => by
    cases j with
    | zero => simp only [List.getElem?_cons_zero, Option.some.injEq] at h; subst h; rfl
    | succ j =>
      have := enumT_at (t := t) l (n + 1) j o (by simpa using h)
      simp only [enumT, List.getElem?_cons_succ, this]
      congr 3
      omega

/-- owned ids: rows and variables that may be written -/
theorem takeEl_owned : ∀ (s : Sh) (cs : List Cell) (t : Taken s), takeEl objs s cs = some t → t.owned.length = s.owns ∧ ∀ i, some i ∈ t.owned → ∃ e xs, objs i = some (.row e xs true)
  | .int k, cs, t, ht => by
    simp only [takeEl, takeInt] at ht
    split at ht
    · split at ht
      · cases ht; exact ⟨rfl, fun i hi => by cases hi⟩
      · cases ht
    · cases ht
  | .bool, cs, t, ht => by
    simp only [takeEl, takeBool] at ht
    split at ht
    · cases ht; exact ⟨rfl, fun i hi => by cases hi⟩
    · cases ht
  | .str, cs, t, ht => by
    simp only [takeEl, takeStr] at ht
    split at ht
    · cases ht; exact ⟨rfl, fun i hi => by cases hi⟩
    · cases ht
  | .sl e, cs, t, ht => by
    simp only [takeEl, takeSlice] at ht
    split at ht
    · split at ht
      · cases ht; exact ⟨rfl, fun i hi => by cases hi⟩
      · cases ht
    · cases ht
  | .own e, cs, t, ht => by
    simp only [takeEl, takeOwned] at ht
    split at ht
    · split at ht
      · rename_i xs i hrd
        cases ht
        refine ⟨rfl, fun j hj => ?_⟩
        simp only [List.mem_singleton] at hj
        subst hj
        unfold takeOwn at hrd
        split at hrd
        · cases hrd
        · split at hrd
          · rename_i ho
            split at hrd
            · cases hrd
              exact ⟨_, _, ho⟩
            · cases hrd
          · cases hrd
        · cases hrd
      · cases ht
    · cases ht
  | .pair s1 s2, cs, t, ht => by
    simp only [takeEl] at ht
    split at ht
    · rename_i t1 h1
      split at ht
      · rename_i t2 h2
        cases ht
        have i1 := takeEl_owned s1 _ _ h1
        have i2 := takeEl_owned s2 _ _ h2
        refine ⟨by simp [Sh.owns, i1.1, i2.1], fun i hi => ?_⟩
        rcases List.mem_append.1 hi with h | h
        · exact i1.2 i h
        · exact i2.2 i h
      · cases ht
    · cases ht
  | .unit, cs, t, ht => by
    simp only [takeEl] at ht
    cases ht; exact ⟨rfl, fun i hi => by cases hi⟩

theorem packF_facts {ids : List Nat} : ∀ (fs : List Fld) (cs : List Cell) (t : TakenF fs), packF objs ids fs cs = some t → (∀ i ∈ t.lent, ∃ e xs wr, objs i = some (.row e xs wr)) ∧ (∀ i, some i ∈ t.owned → ∃ e xs, objs i = some (.row e xs true)) ∧ t.owned.length = (fldsSh fs).owns
  | [], cs, t, h => by
    cases cs with
    | nil => simp only [packF] at h; cases h; exact ⟨fun i hi => (by cases hi), fun i hi => (by cases hi), rfl⟩
    | cons _ _ => simp only [packF] at h; cases h
  | .s sh :: r, cs, t, h => by
    simp only [packF] at h
    split at h <;> try (cases h; done)
    rename_i t1 h1
    split at h <;> cases h
    rename_i u hu
    have i1 := takeEl_owned sh cs t1 h1
    obtain ⟨g1, g2, g3⟩ := packF_facts r t1.rest u hu
    refine ⟨fun i hi => ?_, fun i hi => ?_, by simp [Sh.owns, i1.1, g3]⟩
    · rcases List.mem_append.1 hi with h | h
      · exact takeEl_lent sh cs t1 h1 i h
      · exact g1 i h
    · rcases List.mem_append.1 hi with h | h
      · exact i1.2 i h
      · exact g2 i h
  | .p k :: r, cs, t, h => by
    cases cs with
    | nil => simp only [packF] at h; cases h
    | cons c cs =>
      simp only [packF] at h
      obtain ⟨_, h⟩ := cond_some h
      split at h <;> cases h
      rename_i u hu
      exact packF_facts r cs u hu
  | .c f ks :: r, cs, t, h => by
    cases cs with
    | nil => simp only [packF] at h; cases h
    | cons c cs =>
      simp only [packF] at h
      obtain ⟨_, h⟩ := cond_some h
      split at h <;> cases h
      rename_i u hu
      exact packF_facts r cs u hu

theorem packN_facts {ids : List Nat} : ∀ (ns : List Nd) (il : List Nat) (t : TakenN ns), packN objs ids ns il = some t → (∀ i ∈ t.lent, ∃ e xs wr, objs i = some (.row e xs wr)) ∧ (∀ i, some i ∈ t.owned → ∃ e xs, objs i = some (.row e xs true)) ∧ t.owned.length = (netSh ns).owns ∧ il.length = ns.length
  | [], il, t, h => by
    cases il with
    | nil => simp only [packN] at h; cases h; exact ⟨fun i hi => (by cases hi), fun i hi => (by cases hi), rfl, rfl⟩
    | cons _ _ => simp only [packN] at h; cases h
  | n :: r, il, t, h => by
    cases il with
    | nil => simp only [packN] at h; cases h
    | cons id il =>
      simp only [packN] at h
      split at h <;> try (cases h; done)
      obtain ⟨_, h⟩ := cond_some h
      split at h <;> try (cases h; done)
      rename_i t1 h1
      split at h <;> cases h
      rename_i u hu
      obtain ⟨f1, f2, f3⟩ := packF_facts n.fs _ t1 h1
      obtain ⟨g1, g2, g3, g4⟩ := packN_facts r il u hu
      refine ⟨fun i hi => ?_, fun i hi => ?_, by simp [Sh.owns, f3, g3], by simp [g4]⟩
      · rcases List.mem_append.1 hi with h | h
        · exact f1 i h
        · exact g1 i h
      · rcases List.mem_append.1 hi with h | h
        · exact f2 i h
        · exact g2 i h

theorem packP_facts (p : PSh) (av : AV) (t : Packed p) (h : packP objs p av = some t) : (∀ i ∈ t.lent, ∃ e xs wr, objs i = some (.row e xs wr)) ∧ (∀ i, some i ∈ t.owned → ∃ o, objs i = some o ∧ o.wr = true) ∧
    (match p with
      | .val _ s => t.owned.length = s.owns
      | .ptr s => ∃ id nm cs r, av.ptrId = some id ∧ objs id = some (.var nm cs) ∧ t.owned = some id :: r ∧ r.length = s.owns
      | .brw e => ∃ id xs, av.ownId = some id ∧ objs id = some (.row e xs true) ∧ t.owned = [some id]
      | .net h ns => ∃ c ids r, av.one = some c ∧ findIds objs h ns c = some ids ∧ ids.length = ns.length ∧ (∀ i ∈ ids, ∃ nm cs, objs i = some (.var nm cs)) ∧ t.owned = ids.map some ++ r ∧ r.length = (netSh ns).owns
      | .also k => t.owned = []) := by
  cases p with
  | val agg s =>
    simp only [packP] at h
    split at h <;> try (cases h; done)
    unfold packVal at h
    split at h <;> try (cases h; done)
    rename_i t' ht
    split at h <;> cases h
    have := takeEl_owned s _ t' ht
    exact ⟨takeEl_lent s _ t' ht, fun i hi => (by obtain ⟨e, xs, ho⟩ := this.2 i hi; exact ⟨_, ho, rfl⟩), this.1⟩
  | ptr s =>
    simp only [packP] at h
    split at h <;> try (cases h; done)
    rename_i id hid
    unfold packPtr at h
    split at h <;> try (cases h; done)
    rename_i cs ho
    split at h <;> try (cases h; done)
    rename_i t' ht
    split at h <;> cases h
    have := takeEl_owned s _ t' ht
    refine ⟨takeEl_lent s _ t' ht, fun i hi => ?_, id, _, cs, _, hid, ho, rfl, this.1⟩
    rcases List.mem_cons.1 hi with h | h
    · cases h; exact ⟨_, ho, rfl⟩
    · obtain ⟨e, xs, ho⟩ := this.2 i h; exact ⟨_, ho, rfl⟩
  | brw e =>
    simp only [packP] at h
    split at h <;> try (cases h; done)
    rename_i id hid
    unfold packBrw at h
    split at h <;> try (cases h; done)
    rename_i e' xs ho
    split at h <;> cases h
    rename_i hee
    subst hee
    exact ⟨fun i hi => (by cases hi), fun i hi => (by simp only [List.mem_singleton, Option.some.injEq] at hi; subst hi; exact ⟨_, ho, rfl⟩), id, xs, hid, ho, rfl⟩
  | net hd ns =>
    simp only [packP] at h
    split at h <;> try (cases h; done)
    rename_i c hc
    split at h <;> try (cases h; done)
    rename_i ids hids
    unfold packNet at h
    obtain ⟨_, h⟩ := cond_some h
    split at h <;> cases h
    rename_i t' ht _
    have hv := packN_var ns ids t' ht
    obtain ⟨f1, f2, f3, f4⟩ := packN_facts ns ids t' ht
    refine ⟨f1, fun i hi => ?_, c, ids, _, hc, hids, f4, hv, rfl, f3⟩
    rcases List.mem_append.1 hi with h | h
    · obtain ⟨j, hj, hji⟩ := List.mem_map.1 h
      cases hji
      obtain ⟨nm, cs, ho⟩ := hv i hj
      exact ⟨_, ho, rfl⟩
    · obtain ⟨e, xs, ho⟩ := f2 i h
      exact ⟨_, ho, rfl⟩
  | also k =>
    simp only [packP] at h
    split at h <;> cases h
    exact ⟨fun i hi => (by cases hi), fun i hi => (by cases hi), rfl⟩

theorem packL_facts : ∀ (ps : List PSh) (as : List AV) (t : PackedL ps), packL objs ps as = some t → (∀ i ∈ t.lent, ∃ e xs wr, objs i = some (.row e xs wr)) ∧ (∀ i, some i ∈ t.owned → ∃ o, objs i = some o ∧ o.wr = true)
  | [], as, t, h => by
    cases as with
    | nil => simp only [packL] at h; cases h; exact ⟨fun i hi => (by cases hi), fun i hi => (by cases hi)⟩
    | cons b as => simp only [packL] at h; cases h
  | p :: ps, as, t, h => by
    cases as with
    | nil => simp only [packL] at h; cases h
    | cons b as =>
      simp only [packL] at h
      split at h <;> try (cases h; done)
      rename_i t1 h1
      split at h <;> cases h
      rename_i t2 h2
      have f1 := packP_facts p b t1 h1
      have f2 := packL_facts ps as t2 h2
      refine ⟨fun i hi => ?_, fun i hi => ?_⟩
      · rcases List.mem_append.1 hi with h | h
        · exact f1.1 i h
        · exact f2.1 i h
      · rcases List.mem_append.1 hi with h | h
        · exact f1.2.1 i h
        · exact f2.2 i h

end aft
end Go.Fw

namespace Go.Fw
open Go

section post
variable {P : Program} {o : Oper} {w0 : World} {U : Nat → Prop} {S : Own} {a : Act} {w w' : World} {V W : Nat → Prop} {μ : Mu} {slots : Nat → AV} {objs : Objs} {β : Type}

theorem append_get {α : Type} {l m : List α} {j : Nat} {x : α} (h : (l ++ m)[j]? = some x) : l[j]? = some x ∨ (l.length ≤ j ∧ m[j - l.length]? = some x) := by
  by_cases hj : j < l.length
  · rw [List.getElem?_append_left hj] at h; exact .inl h
  · rw [List.getElem?_append_right (by omega)] at h; exact .inr ⟨by omega, h⟩

theorem rootsOf_val {agg : Bool} {s : Sh} {ps : List PSh} {p q : Places} (h : p.length = s.owns) : rootsOf (.val agg s :: ps) (p ++ q) = rootsOf ps q := by
  simp only [rootsOf]
  rw [List.drop_append, List.drop_of_length_le (by omega), List.nil_append, h, Nat.sub_self, List.drop_zero]

theorem rootsOf_ptr {s : Sh} {ps : List PSh} {r : Option (Nat × Nat)} {p q : Places} (h : p.length = s.owns) : rootsOf (.ptr s :: ps) (r :: p ++ q) = r :: rootsOf ps q := by
  simp only [rootsOf, List.cons_append, List.head?_cons, Option.getD_some, List.drop_succ_cons]
  rw [List.drop_append, List.drop_of_length_le (by omega), List.nil_append, h, Nat.sub_self, List.drop_zero]

theorem rootsOf_brw {e : Sh} {ps : List PSh} {r : Option (Nat × Nat)} {q : Places} : rootsOf (.brw e :: ps) ([r] ++ q) = r :: rootsOf ps q := by
  simp [rootsOf]

theorem mintS_wr : ∀ (s : Sh) (x : El s) (n j : Nat) (o : Ob), (mintS n s x).2[j]? = some o → o.wr = true
  | .int _, _, _, _, _, h => by simp [mintS] at h
  | .bool, _, _, _, _, h => by simp [mintS] at h
  | .str, _, _, _, _, h => by simp [mintS] at h
  | .sl _, _, _, _, _, h => by simp [mintS] at h
  | .unit, _, _, _, _, h => by simp [mintS] at h
  | .own _, _, _, j, _, h => by
    cases j with
    | zero => simp only [mintS, List.getElem?_cons_zero, Option.some.injEq] at h; subst h; rfl
    | succ j => simp [mintS] at h
  | .pair a b, x, n, j, o, h => by
    simp only [mintS] at h
    rcases append_get h with h | ⟨_, h⟩
    · exact mintS_wr a x.1 n _ o h
    · exact mintS_wr b x.2 _ _ o h

theorem mintF_wr {loc : Nat → Nat} : ∀ (fs : List Fld) (x : El (fldsSh fs)) (m j : Nat) (o : Ob), (mintF loc m fs x).2[j]? = some o → o.wr = true
  | [], _, _, _, _, h => by simp [mintF] at h
  | .s sh :: r, x, m, j, o, h => by
    simp only [mintF] at h
    rcases append_get h with h | ⟨_, h⟩
    · exact mintS_wr sh x.1 m _ o h
    · exact mintF_wr r x.2 _ _ o h
  | .p _ :: r, x, m, j, o, h => mintF_wr r x m j o h
  | .c _ _ :: r, x, m, j, o, h => mintF_wr r x m j o h

theorem mintN_wr {loc : Nat → Nat} {nmf : Nat → Nd → Option Nat} : ∀ (ns : List Nd) (x : El (netSh ns)) (m i j : Nat) (o : Ob), (mintN loc nmf m i ns x).2[j]? = some o → o.wr = true
  | [], _, _, _, _, _, h => by simp [mintN] at h
  | n :: r, x, m, i, j, o, h => by
    simp only [mintN] at h
    rcases append_get h with h | ⟨_, h⟩
    · exact mintF_wr n.fs x.1 m _ o h
    · exact mintN_wr r x.2 _ _ _ o h

theorem mintN_form' {loc : Nat → Nat} {nmf : Nat → Nd → Option Nat} : ∀ (ns : List Nd) (x : El (netSh ns)) (m i j : Nat) (o : Ob), (mintN loc nmf m i ns x).1[j]? = some o → ∃ cs nd, ns[j]? = some nd ∧ o = .var (nmf (i + j) nd) cs
  | [], _, _, _, _, _, h => by simp [mintN] at h
  | n :: r, x, m, i, j, o, h => by
    cases j with
    | zero =>
      simp only [mintN, List.getElem?_cons_zero, Option.some.injEq] at h
      subst h
      exact ⟨_, n, rfl, rfl⟩
    | succ j =>
      obtain ⟨cs, nd, h1, h2⟩ := mintN_form' r x.2 _ (i + 1) j o (by simpa [mintN] using h)
      exact ⟨cs, nd, by simpa using h1, by rw [h2]; congr 2; omega⟩

theorem mintN_form {loc : Nat → Nat} {nmf : Nat → Nd → Option Nat} (ns : List Nd) (x : El (netSh ns)) (m i j : Nat) (o : Ob) (h : (mintN loc nmf m 0 ns x).1[j]? = some o) : ∃ cs nd, ns[j]? = some nd ∧ o = .var (nmf j nd) cs := by
  obtain ⟨cs, nd, h1, h2⟩ := mintN_form' ns x m 0 j o h
  exact ⟨cs, nd, h1, by rw [h2, Nat.zero_add]⟩

theorem rootsOf_net {hd : Hd} {ns : List Nd} {ps : List PSh} {b p q : Places} (hb : b.length = ns.length) (h : p.length = (netSh ns).owns) : rootsOf (.net hd ns :: ps) (b ++ (p ++ q)) = b ++ rootsOf ps q := by
  simp only [rootsOf]
  rw [List.take_append_of_le_length (by omega), List.take_of_length_le (by omega)]
  rw [← List.append_assoc, List.drop_append, List.drop_of_length_le (by rw [List.length_append]; omega), List.nil_append]
  rw [List.length_append, hb, h, Nat.sub_self, List.drop_zero]

theorem rootsOf_also {k : Nat} {ps : List PSh} {q : Places} : rootsOf (.also k :: ps) q = rootsOf ps q := rfl

theorem zipT_length : ∀ (l : List Nat) (m : List Ob), l.length = m.length → (zipT l m).length = l.length
  | [], [], _ => rfl
  | _ :: l, _ :: m, h => by simp [zipT, zipT_length l m (by simpa using h)]
  | [], _ :: _, h => by cases h
  | _ :: _, [], h => by cases h

theorem zipT_get : ∀ (l : List Nat) (m : List Ob) (j : Nat) (z : Bool × (Nat × Ob)), (zipT l m)[j]? = some z → z.1 = true ∧ l[j]? = some z.2.1 ∧ m[j]? = some z.2.2
  | [], _, j, z, h => by simp [zipT] at h
  | _ :: _, [], j, z, h => by simp [zipT] at h
  | i :: l, o :: m, j, z, h => by
    cases j with
    | zero => simp only [zipT, List.getElem?_cons_zero, Option.some.injEq] at h; subst h; exact ⟨rfl, rfl, rfl⟩
    | succ j => simpa using zipT_get l m j z (by simpa [zipT] using h)

theorem zipT_at : ∀ (l : List Nat) (m : List Ob) (j i : Nat) (o : Ob), l[j]? = some i → m[j]? = some o → (zipT l m)[j]? = some (true, (i, o))
  | [], _, j, i, o, h, _ => by simp at h
  | _ :: _, [], j, i, o, _, h => by simp at h
  | i' :: l, o' :: m, j, i, o, h, h2 => by
    cases j with
    | zero =>
      simp only [List.getElem?_cons_zero, Option.some.injEq] at h h2
      subst h h2; rfl
    | succ j => simpa [zipT] using zipT_at l m j i o (by simpa using h) (by simpa using h2)

theorem post_ok (hO : ∀ id o, objs id = some o → ObR w V μ objs id o) : ∀ (ps : List PSh) (as : List AV) (vs : List Value) (t : PackedL ps) (y : ElL (posts ps)) (n : Nat) (p2 : Places),
    AVsR w V μ objs as vs → packL objs ps as = some t → HoldsL w' W (posts ps) y (postVals ps vs) p2 → rootsOf (posts ps) p2 = rootsOf ps (t.owned.map (·.bind μ)) →
    (postT objs ps as y n).length = p2.length ∧
    (∀ (j : Nat) (z : Bool × (Nat × Ob)) (p : Option (Nat × Nat)), (postT objs ps as y n)[j]? = some z → p2[j]? = some p → z.2.2.wr = true ∧
      (z.1 = true → some z.2.1 ∈ t.owned ∧ (∃ o, objs z.2.1 = some o ∧ Alike o z.2.2) ∧ μ z.2.1 = p)) ∧
    (∀ (μ' : Mu) (objs' : Objs), (∀ (j : Nat) z, (postT objs ps as y n)[j]? = some z → objs' z.2.1 = some z.2.2) →
      (∀ (j : Nat) z p, (postT objs ps as y n)[j]? = some z → p2[j]? = some p → μ' z.2.1 = p) → ∀ (j : Nat) z, (postT objs ps as y n)[j]? = some z → ObR w' W μ' objs' z.2.1 z.2.2)
  | [], as, vs, t, y, n, p2, _, _, hh, _ => by
    obtain ⟨_, h⟩ := hh
    subst h
    exact ⟨rfl, fun j z p h _ => by simp [postT] at h, fun μ' objs' _ _ j z h => by simp [postT] at h⟩
  | p :: ps, [], vs, t, y, n, p2, ha, h, _, _ => by simp only [packL] at h; cases h
  | .val agg s :: ps, b :: as, vs, t, y, n, p2, ha, h, hh, hroots => by
    simp only [packL] at h
    split at h <;> try (cases h; done)
    rename_i t1 h1
    split at h <;> cases h
    rename_i t2 h2
    obtain ⟨v, us, rfl, hv, hus⟩ := ha
    have f1 := (packP_facts _ b t1 h1).2.2
    simp only [List.map_append] at hroots
    rw [rootsOf_val (by simpa using f1)] at hroots
    obtain ⟨g1, g2, g3⟩ := post_ok hO ps as us t2 y n p2 hus h2 hh hroots
    exact ⟨g1, fun j z p hz hp => ⟨(g2 j z p hz hp).1, fun ht => (by
      obtain ⟨k1, k2, k3⟩ := (g2 j z p hz hp).2 ht
      exact ⟨List.mem_append_right _ k1, k2, k3⟩)⟩, g3⟩
  | .also k :: ps, b :: as, vs, t, y, n, p2, ha, h, hh, hroots => by
    simp only [packL] at h
    split at h <;> try (cases h; done)
    rename_i t1 h1
    split at h <;> cases h
    rename_i t2 h2
    obtain ⟨v, us, rfl, hv, hus⟩ := ha
    have f1 : t1.owned = [] := (packP_facts _ b t1 h1).2.2
    simp only [f1, List.nil_append] at hroots ⊢
    exact post_ok hO ps as us t2 y n p2 hus h2 hh hroots
  | .ptr s :: ps, b :: as, vs, t, y, n, p2, ha, h, hh, hroots => by
    simp only [packL] at h
    split at h <;> try (cases h; done)
    rename_i t1 h1
    split at h <;> cases h
    rename_i t2 h2
    obtain ⟨v, us, rfl, hv, hus⟩ := ha
    obtain ⟨id, nm, cs, r, hid, hob, hown, hrl⟩ := (packP_facts _ b t1 h1).2.2
    have hb := AV.ptrId_eq hid
    subst hb
    obtain ⟨v', us', q1, q2, hvs, rfl, hP, hrest⟩ := hh
    simp only [postVals, List.cons.injEq] at hvs
    obtain ⟨rfl, rfl⟩ := hvs
    obtain ⟨bl, vs2, ty, fr, q, hpv, rfl, hblk, hth, hS⟩ := hP
    -- the variable's place
    obtain ⟨bl', off, hmu, hpv'⟩ := hv.one.2.2 cs _ hob
    obtain ⟨bl2, _, _, _, hmu2, _, _, _⟩ := hO id _ hob
    rw [hmu] at hmu2
    simp only [Option.some.injEq, Prod.mk.injEq] at hmu2
    obtain ⟨rfl, rfl⟩ := hmu2
    rw [hpv] at hpv'
    simp only [Value.pointer.injEq, Option.some.injEq, Addr.mk.injEq] at hpv'
    have hbl : bl = bl' := hpv'.1
    subst hbl
    have hql := mintS_len s y.1 _ q n hS
    rw [hown] at hroots
    simp only [List.cons_append, List.map_cons, List.map_append, Option.bind_some] at hroots
    have hr1 : rootsOf (posts (.ptr s :: ps)) (some (bl, 0) :: (q ++ q2)) = some (bl, 0) :: rootsOf (posts ps) q2 := rootsOf_ptr (ps := posts ps) (r := some (bl, 0)) (p := q) (q := q2) hql.2
    have hr2 : rootsOf (.ptr s :: ps) (μ id :: (r.map (·.bind μ) ++ t2.owned.map (·.bind μ))) = μ id :: rootsOf ps (t2.owned.map (·.bind μ)) := rootsOf_ptr (p := r.map (·.bind μ)) (by simpa using hrl)
    rw [hr1, hr2] at hroots
    simp only [List.cons.injEq] at hroots
    obtain ⟨g1, g2, g3⟩ := post_ok hO ps as us t2 y.2 (n + (mintS n s y.1).2.length) q2 hus h2 hrest hroots.2
    have hpt : postT objs (.ptr s :: ps) (.cs false [.ptr id 0] :: as) y n = (true, (id, .var (nmOf objs id) (mintS n s y.1).1)) :: (enumT false n (mintS n s y.1).2 ++ postT objs ps as y.2 (n + (mintS n s y.1).2.length)) := by
      simp only [postT, hid]
    rw [hpt]
    have hel := enumT_length (t := false) (mintS n s y.1).2 n
    have helq : (enumT false n (mintS n s y.1).2).length = q.length := by rw [hel, hql.1]
    refine ⟨by simp only [List.length_cons, List.length_append, hel, g1]; omega, ?_, ?_⟩
    · intro j z p hz hp
      cases j with
      | zero =>
        simp only [List.getElem?_cons_zero, Option.some.injEq, List.cons_append] at hz hp
        subst hz hp
        exact ⟨rfl, fun _ => ⟨List.mem_append_left _ (by rw [hown]; simp), ⟨_, hob, (by simp [nmOf, hob] : nm = nmOf objs id)⟩, hmu⟩⟩
      | succ j =>
        simp only [List.getElem?_cons_succ, List.cons_append] at hz hp
        rcases append_get hz with hz | ⟨hge, hz⟩
        · obtain ⟨e1, e2, e3⟩ := enumT_get _ _ _ _ hz
          have hlt := (List.getElem?_eq_some_iff.1 hz).1
          rw [hel, hql.1] at hlt
          obtain ⟨_, _, hobs⟩ := HoldsS.mint s y.1 _ q hS n (fun i => (q[i - n]?).getD none) (fun i => (mintS n s y.1).2[i - n]?) (fun j p hj => by simp [hj]) (fun j o hj => by simp [hj])
          exact ⟨(hobs j _ e3).2, fun ht => by rw [e1] at ht; cases ht⟩
        · rw [helq] at hge hz
          rw [List.getElem?_append_right hge] at hp
          obtain ⟨k1, k2⟩ := g2 _ z p hz hp
          exact ⟨k1, fun ht => by obtain ⟨m1, m2, m3⟩ := k2 ht; exact ⟨List.mem_append_right _ m1, m2, m3⟩⟩
    · intro μ' objs' hobj hmu' j z hz
      have hin := HoldsS.mint s y.1 _ q hS n μ' objs' (fun j p hj => by
          have hjl : j < (mintS n s y.1).2.length := by rw [hql.1]; exact (List.getElem?_eq_some_iff.1 hj).1
          have hz' := enumT_at (t := false) (mintS n s y.1).2 n j _ (List.getElem?_eq_getElem hjl)
          exact hmu' (j + 1) (false, (n + j, (mintS n s y.1).2[j])) p (by
            simp only [List.getElem?_cons_succ]
            rw [List.getElem?_append_left (by rw [hel]; exact hjl)]
            exact hz') (by
            simp only [List.cons_append, List.getElem?_cons_succ]
            rw [List.getElem?_append_left (by exact (List.getElem?_eq_some_iff.1 hj).1)]
            exact hj)) (fun j o hj => by
          have hz' := enumT_at (t := false) (mintS n s y.1).2 n j o hj
          exact hobj (j + 1) (false, (n + j, o)) (by
            simp only [List.getElem?_cons_succ]
            rw [List.getElem?_append_left (by rw [hel]; exact (List.getElem?_eq_some_iff.1 hj).1)]
            exact hz'))
      obtain ⟨_, hcells, hobs⟩ := hin
      cases j with
      | zero =>
        simp only [List.getElem?_cons_zero, Option.some.injEq] at hz
        subst hz
        exact ⟨bl, vs2, ty, fr, hmu' 0 (true, (id, .var (nmOf objs id) (mintS n s y.1).1)) _ rfl rfl, hblk, hth, hcells⟩
      | succ j =>
        simp only [List.getElem?_cons_succ] at hz
        rcases append_get hz with hz | ⟨hge, hz⟩
        · obtain ⟨_, e2, e3⟩ := enumT_get _ _ _ _ hz
          rw [e2]; exact (hobs j _ e3).1
        · rw [helq] at hge hz
          refine g3 μ' objs' (fun j z hz => hobj (j + q.length + 1) z ?_) (fun j z p hz hp => hmu' (j + q.length + 1) z p ?_ ?_) _ z hz
          · simp only [List.getElem?_cons_succ]
            rw [List.getElem?_append_right (by rw [helq]; omega), helq, Nat.add_sub_cancel]
            exact hz
          · simp only [List.getElem?_cons_succ]
            rw [List.getElem?_append_right (by rw [helq]; omega), helq, Nat.add_sub_cancel]
            exact hz
          · simp only [List.cons_append, List.getElem?_cons_succ]
            rw [List.getElem?_append_right (by omega), Nat.add_sub_cancel]
            exact hp
  | .brw e :: ps, b :: as, vs, t, y, n, p2, ha, h, hh, hroots => by
    simp only [packL] at h
    split at h <;> try (cases h; done)
    rename_i t1 h1
    split at h <;> cases h
    rename_i t2 h2
    obtain ⟨v, us, rfl, hv, hus⟩ := ha
    obtain ⟨id, xs, hid, hob, hown⟩ := (packP_facts _ b t1 h1).2.2
    have hb := AV.ownId_eq hid
    subst hb
    obtain ⟨v', us', q1, q2, hvs, rfl, hP, hrest⟩ := hh
    simp only [postVals, List.cons.injEq] at hvs
    obtain ⟨rfl, rfl⟩ := hvs
    obtain ⟨m, rfl, hrow⟩ := hP
    obtain ⟨ad, cap, hval, hcap, _⟩ := hv.one.2.2 e xs true hob
    rw [hown] at hroots
    simp only [List.map_append, List.map_cons, List.map_nil, Option.bind_some] at hroots
    have hr1 : rootsOf (posts (.brw e :: ps)) ([m] ++ q2) = m :: rootsOf (posts ps) q2 := rootsOf_brw
    have hr2 : rootsOf (.brw e :: ps) ([μ id] ++ t2.owned.map (·.bind μ)) = μ id :: rootsOf ps (t2.owned.map (·.bind μ)) := rootsOf_brw
    rw [hr1, hr2] at hroots
    simp only [List.cons.injEq] at hroots
    obtain ⟨hm, hroots⟩ := hroots
    obtain ⟨g1, g2, g3⟩ := post_ok hO ps as us t2 y.2 n q2 hus h2 hrest hroots
    have hpt : postT objs (.brw e :: ps) (.cs false [.own id] :: as) y n = (true, (id, .row e y.1 true)) :: postT objs ps as y.2 n := by
      simp only [postT, hid]
    rw [hpt]
    obtain ⟨ad2, cap2, hval2, hcap2, hmm⟩ := hrow
    rw [hval] at hval2
    simp only [Value.slice.injEq] at hval2
    refine ⟨by simp [g1], ?_, ?_⟩
    · intro j z p hz hp
      cases j with
      | zero =>
        simp only [List.getElem?_cons_zero, Option.some.injEq, List.singleton_append] at hz hp
        subst hz hp
        refine ⟨rfl, fun _ => ⟨List.mem_append_left _ (by rw [hown]; simp), ⟨_, hob, rfl, ?_⟩, hm.symm⟩⟩
        exact hval2.2.1
      | succ j =>
        simp only [List.getElem?_cons_succ, List.singleton_append] at hz hp
        obtain ⟨k1, k2⟩ := g2 j z p hz hp
        exact ⟨k1, fun ht => by obtain ⟨m1, m2, m3⟩ := k2 ht; exact ⟨List.mem_append_right _ m1, m2, m3⟩⟩
    · intro μ' objs' hobj hmu' j z hz
      cases j with
      | zero =>
        simp only [List.getElem?_cons_zero, Option.some.injEq] at hz
        subst hz
        have hm' : μ' id = m := hmu' 0 (true, (id, .row e y.1 true)) m rfl rfl
        cases m with
        | none => exact .inl ⟨hm', hmm.1⟩
        | some q =>
          obtain ⟨bl, off⟩ := q
          obtain ⟨k1, vs3, ty, fr, k2, k3, k4, k5⟩ := hmm
          refine .inr ⟨bl, off, vs3, ty, fr, hm', k2, fun _ => k3, (fun h => nomatch h), ?_, k5⟩
          have := Nat.mul_le_mul_right e.size hcap2
          have e2 : (y.1 : List (El e)).length = List.length y.1 := rfl
          omega
      | succ j =>
        simp only [List.getElem?_cons_succ] at hz
        exact g3 μ' objs' (fun j z hz => hobj (j + 1) z (by simpa using hz)) (fun j z p hz hp => hmu' (j + 1) z p (by simpa using hz) (by simpa using hp)) j z hz
  | .net hd ns :: ps, b :: as, vs, t, y, n, p2, ha, h, hh, hroots => by
    simp only [packL] at h
    split at h <;> try (cases h; done)
    rename_i t1 h1
    split at h <;> cases h
    rename_i t2 h2
    obtain ⟨v, us, rfl, hv, hus⟩ := ha
    obtain ⟨c, ids, r, hc, hids, hlen, hvar, hown, hrl⟩ := (packP_facts _ b t1 h1).2.2
    have hb := AV.one_eq hc
    subst hb
    obtain ⟨v', us', q1, q2, hvs, rfl, hP, hrest⟩ := hh
    simp only [postVals, List.cons.injEq] at hvs
    obtain ⟨rfl, rfl⟩ := hvs
    obtain ⟨bs, q, rfl, hH, hN⟩ := hP
    have hla : ∀ (k i : Nat), ids[k]? = some i → ids.getD k 0 = i := fun k i h => by simp only [List.getD_eq_getElem?_getD, h, Option.getD_some]
    generalize hloc : (fun k => ids.getD k 0) = loc
    generalize hnmf : (fun i (_ : Nd) => nmOf objs (ids.getD i 0)) = nmf
    have hla : ∀ (k i : Nat), ids[k]? = some i → loc k = i := fun k i h => by rw [← hloc]; exact hla k i h
    have hbl := hN.length
    have hql := mintNs_len (loc := loc) (nmf := nmf) ns y.1 bs q n 0 hN
    have hNl := mintN_len (loc := loc) (nmf := nmf) ns y.1 n 0
    have hpbl : (placesOf bs).length = ns.length := by simp [placesOf, hbl]
    rw [hown] at hroots
    simp only [List.append_assoc, List.map_append] at hroots
    have hr1 : rootsOf (posts (.net hd ns :: ps)) (placesOf bs ++ (q ++ q2)) = placesOf bs ++ rootsOf (posts ps) q2 := rootsOf_net (ps := posts ps) hpbl hql.2
    have hr2 : rootsOf (.net hd ns :: ps) ((ids.map some).map (·.bind μ) ++ (r.map (·.bind μ) ++ t2.owned.map (·.bind μ))) = (ids.map some).map (·.bind μ) ++ rootsOf ps (t2.owned.map (·.bind μ)) :=
      rootsOf_net (by simp [hlen]) (by simpa using hrl)
    rw [hr1, hr2] at hroots
    obtain ⟨hroot0, hroots⟩ := List.append_inj hroots (by rw [hpbl]; simp [hlen])
    have hmuids : ∀ (k i bb : Nat), ids[k]? = some i → bs[k]? = some bb → μ i = some (bb, 0) := by
      intro k i bb h3 h4
      have e1 : (placesOf bs)[k]? = some (some (bb, 0)) := by simp [placesOf, h4]
      rw [hroot0] at e1
      simpa [h3] using e1
    obtain ⟨g1, g2, g3⟩ := post_ok hO ps as us t2 y.2 (n + (mintN loc nmf n 0 ns y.1).2.length) q2 hus h2 hrest hroots
    have hpt : postT objs (.net hd ns :: ps) (.cs false [c] :: as) y n = zipT ids (mintN loc nmf n 0 ns y.1).1 ++ (enumT false n (mintN loc nmf n 0 ns y.1).2 ++ postT objs ps as y.2 (n + (mintN loc nmf n 0 ns y.1).2.length)) := by
      simp only [postT, hc, hids, hloc, hnmf]
    rw [hpt]
    have hzl : (zipT ids (mintN loc nmf n 0 ns y.1).1).length = ns.length := by rw [zipT_length _ _ (by omega), hlen]
    have hel := enumT_length (t := false) (mintN loc nmf n 0 ns y.1).2 n
    have helq : (enumT false n (mintN loc nmf n 0 ns y.1).2).length = q.length := by rw [hel, hql.1]
    -- a world made for looking at the objects alone
    have hnodes : ∀ (μ' : Mu) (objs' : Objs), (∀ (j : Nat) z, (zipT ids (mintN loc nmf n 0 ns y.1).1 ++ (enumT false n (mintN loc nmf n 0 ns y.1).2 ++ postT objs ps as y.2 (n + (mintN loc nmf n 0 ns y.1).2.length)))[j]? = some z → objs' z.2.1 = some z.2.2) →
        (∀ (j : Nat) z p, (zipT ids (mintN loc nmf n 0 ns y.1).1 ++ (enumT false n (mintN loc nmf n 0 ns y.1).2 ++ postT objs ps as y.2 (n + (mintN loc nmf n 0 ns y.1).2.length)))[j]? = some z → (placesOf bs ++ (q ++ q2))[j]? = some p → μ' z.2.1 = p) →
        (∀ j o, (mintN loc nmf n 0 ns y.1).1[j]? = some o → (∃ cs nd, ns[j]? = some nd ∧ o = .var (nmf j nd) cs) ∧ ObR w' W μ' objs' (loc j) o ∧ o.wr = true) ∧
        (∀ j o, (mintN loc nmf n 0 ns y.1).2[j]? = some o → ObR w' W μ' objs' (n + j) o ∧ o.wr = true) := by
      intro μ' objs' hobj hmu'
      have hat : ∀ (k bb : Nat), bs[k]? = some bb → μ' (loc k) = some (bb, 0) ∧ (objs' (loc k)).isSome = true := by
        intro k bb hk
        have hlt := (List.getElem?_eq_some_iff.1 hk).1
        have hz := zipT_at ids (mintN loc nmf n 0 ns y.1).1 k ids[k] _ (List.getElem?_eq_getElem (by omega)) (List.getElem?_eq_getElem (by omega : k < (mintN loc nmf n 0 ns y.1).1.length))
        have hlk : loc k = ids[k] := hla k _ (List.getElem?_eq_getElem (by omega : k < ids.length))
        have hz' := hz
        rw [← List.getElem?_append_left (l₂ := enumT false n (mintN loc nmf n 0 ns y.1).2 ++ postT objs ps as y.2 (n + (mintN loc nmf n 0 ns y.1).2.length)) (by omega)] at hz'
        rw [hlk]
        refine ⟨hmu' k _ _ hz' ?_, ?_⟩
        · rw [List.getElem?_append_left (by omega)]
          simp [placesOf, hk]
        · rw [hobj k _ hz']; rfl
      obtain ⟨_, _, k3, k4⟩ := HoldsN.mint (loc := loc) (nmf := nmf) hat ns y.1 bs q hN n 0 (fun j b hj => by simpa using hj) (fun j p hj => by
          have hjl : j < (mintN loc nmf n 0 ns y.1).2.length := by rw [hql.1]; exact (List.getElem?_eq_some_iff.1 hj).1
          have hz' := enumT_at (t := false) (mintN loc nmf n 0 ns y.1).2 n j _ (List.getElem?_eq_getElem hjl)
          exact hmu' (ns.length + j) (false, (n + j, (mintN loc nmf n 0 ns y.1).2[j])) p (by
            rw [List.getElem?_append_right (by omega), hzl, Nat.add_sub_cancel_left]
            rw [List.getElem?_append_left (by rw [hel]; exact hjl)]
            exact hz') (by
            rw [List.getElem?_append_right (by omega), hpbl, Nat.add_sub_cancel_left]
            rw [List.getElem?_append_left (List.getElem?_eq_some_iff.1 hj).1]
            exact hj)) (fun j o hj => by
          have hz' := enumT_at (t := false) (mintN loc nmf n 0 ns y.1).2 n j o hj
          exact hobj (ns.length + j) (false, (n + j, o)) (by
            rw [List.getElem?_append_right (by omega), hzl, Nat.add_sub_cancel_left]
            rw [List.getElem?_append_left (by rw [hel]; exact (List.getElem?_eq_some_iff.1 hj).1)]
            exact hz'))
      exact ⟨fun j o hj => by have := k3 j o hj; simp only [Nat.zero_add] at this; exact this, k4⟩
    refine ⟨by simp only [List.length_append, hel, g1, hzl, hpbl]; omega, ?_, ?_⟩
    · intro j z p hz hp
      rcases append_get hz with hz | ⟨hge, hz⟩
      · obtain ⟨e1, e2, e3⟩ := zipT_get _ _ _ _ hz
        have hlt := (List.getElem?_eq_some_iff.1 hz).1
        rw [hzl] at hlt
        rw [List.append_assoc, List.getElem?_append_left (by omega)] at hp
        have hbj : bs[j]? = some bs[j] := List.getElem?_eq_getElem (by omega)
        have hpp : p = some (bs[j], 0) := by
          have : (placesOf bs)[j]? = some (some (bs[j], 0)) := by simp [placesOf, hbj]
          rw [hp] at this; exact Option.some.inj this
        obtain ⟨nm, cs, hob⟩ := hvar z.2.1 (List.mem_of_getElem? e2)
        have hform : ∃ cs' nd, ns[j]? = some nd ∧ z.2.2 = .var (nmf j nd) cs' := mintN_form ns y.1 n 0 j z.2.2 e3
        obtain ⟨cs', nd, hnd, hform⟩ := hform
        refine ⟨by rw [hform]; rfl, fun _ => ⟨List.mem_append_left _ (by rw [hown]; exact List.mem_append_left _ (List.mem_map.2 ⟨_, List.mem_of_getElem? e2, rfl⟩)), ⟨_, hob, ?_⟩, ?_⟩⟩
        · rw [hform]
          show nm = nmf j nd
          rw [← hnmf]
          simp only [List.getD_eq_getElem?_getD, e2, Option.getD_some, nmOf, hob]
        · rw [hpp]; exact hmuids j _ _ e2 hbj
      · rw [hzl] at hge hz
        rw [List.append_assoc, List.getElem?_append_right (by omega), hpbl] at hp
        rcases append_get hz with hz | ⟨hge2, hz⟩
        · obtain ⟨e1, e2, e3⟩ := enumT_get _ _ _ _ hz
          exact ⟨mintN_wr ns y.1 n 0 _ _ e3, fun ht => by rw [e1] at ht; cases ht⟩
        · rw [helq] at hge2 hz
          rw [List.getElem?_append_right hge2] at hp
          obtain ⟨k1, k2⟩ := g2 _ z p hz hp
          exact ⟨k1, fun ht => by obtain ⟨m1, m2, m3⟩ := k2 ht; exact ⟨List.mem_append_right _ m1, m2, m3⟩⟩
    · intro μ' objs' hobj hmu' j z hz
      obtain ⟨k3, k4⟩ := hnodes μ' objs' hobj (fun j z p hz hp => hmu' j z p hz (by rw [List.append_assoc]; exact hp))
      rcases append_get hz with hz | ⟨hge, hz⟩
      · obtain ⟨e1, e2, e3⟩ := zipT_get _ _ _ _ hz
        have := (k3 j _ e3).2.1
        have hlk : loc j = z.2.1 := hla j _ e2
        rw [← hlk]; exact this
      · rw [hzl] at hge hz
        rcases append_get hz with hz | ⟨hge2, hz⟩
        · obtain ⟨_, e2, e3⟩ := enumT_get _ _ _ _ hz
          rw [e2]; exact (k4 _ _ e3).1
        · rw [helq] at hge2 hz
          refine g3 μ' objs' (fun j z hz => hobj (ns.length + (q.length + j)) z ?_) (fun j z p hz hp => hmu' (ns.length + (q.length + j)) z p ?_ ?_) _ z hz
          · rw [List.getElem?_append_right (by omega), hzl, Nat.add_sub_cancel_left]
            rw [List.getElem?_append_right (by omega), helq, Nat.add_sub_cancel_left]
            exact hz
          · rw [List.getElem?_append_right (by omega), hzl, Nat.add_sub_cancel_left]
            rw [List.getElem?_append_right (by omega), helq, Nat.add_sub_cancel_left]
            exact hz
          · rw [List.append_assoc, List.getElem?_append_right (by omega), hpbl, Nat.add_sub_cancel_left]
            rw [List.getElem?_append_right (by omega), Nat.add_sub_cancel_left]
            exact hp

end post
end Go.Fw

namespace Go.Fw
open Go

section evc
variable {P : Program} {o : Oper} {w0 : World} {U : Nat → Prop} {S : Own} {a : Act} {w w' : World} {V W : Nat → Prop} {μ : Mu} {slots : Nat → AV} {objs : Objs} {β : Type} {z : β}

theorem vals_ok (R : RelM w0 U S ⟨slots, objs⟩ a w V μ) : ∀ (l : List Operand), AVsR w V μ objs (l.map (AS.val ⟨slots, objs⟩)) (l.map a.eval)
  | [] => rfl
  | x :: l => ⟨_, _, rfl, R.val x, vals_ok R l⟩

theorem AVsR.length : ∀ {as : List AV} {vs : List Value}, AVsR w V μ objs as vs → vs.length = as.length
  | [], _, h => by rw [show _ = _ from h]; rfl
  | _ :: _, _, ⟨_, _, h, _, h2⟩ => by rw [h]; simp [AVsR.length h2]

theorem tupOf_ok : ∀ (as : List AV) (vs : List Value) (t : List (Bool × List Cell)), AVsR w V μ objs as vs → tupOf as = some t → TupR w V μ objs t vs
  | [], vs, t, h, ht => by simp only [tupOf] at ht; cases ht; exact h
  | .cs ag l :: as, vs, t, ⟨v, us, hv, h1, h2⟩, ht => by
    simp only [tupOf] at ht
    split at ht <;> cases ht
    rename_i t' ht'
    obtain ⟨cs, h3, h4⟩ := h1
    exact ⟨v, us, cs, hv, h3, h4, tupOf_ok as us t' h2 ht'⟩
  | .tup l :: as, vs, t, _, ht => by simp only [tupOf] at ht; cases ht
  | .undef :: as, vs, t, _, ht => by simp only [tupOf] at ht; cases ht

theorem ret_ok {as : List AV} {vs : List Value} {v : AV} (h : AVsR w V μ objs as vs) (hr : retAV as = some v) : AVR w V μ objs v (retVal vs) := by
  have hl := h.length
  match as, vs, hl, h, hr with
  | [], [], _, h, hr => simp only [retAV, tupOf] at hr; cases hr; exact ⟨[], rfl, rfl⟩
  | [b], [u], _, ⟨v', us, hv, h1, h2⟩, hr =>
    simp only [retAV] at hr
    cases hr
    cases hv
    exact h1
  | b :: c :: as, u1 :: u2 :: us, _, h, hr =>
    simp only [retAV] at hr
    split at hr <;> cases hr
    rename_i t ht
    exact ⟨_, rfl, tupOf_ok _ _ t h ht⟩

theorem frz_other {ids : List Nat} {i : Nat} (h : i ∉ ids) : frz ids objs i = objs i := by
  cases ids with
  | nil => rfl
  | cons j l =>
    have : frz (j :: l) objs = fun i => match objs i with
        | some (.row e xs wr) => some (.row e xs (cond ((j :: l).contains i) false wr))
        | o => o := rfl
    rw [this]
    simp only
    have hc : (j :: l).contains i = false := by
      cases hb : (j :: l).contains i with
      | false => rfl
      | true => exact absurd (List.contains_iff_mem.1 hb) h
    cases ho : objs i with
    | none => rfl
    | some ob =>
      cases ob with
      | row e xs wr => simp only [hc, cond_false]
      | var nm cs => rfl
      | dead => rfl

theorem ownedIds_mem {l : List (Option Nat)} {i : Nat} : i ∈ ownedIds l ↔ some i ∈ l := by
  simp [ownedIds, List.mem_filterMap]

theorem fp_owned : ∀ (l : List (Option Nat)) (b : Nat), b ∈ fpOf (l.map (·.bind μ)) ↔ ∃ i, some i ∈ l ∧ ∃ x, μ i = some (b, x)
  | [], b => by simp [fpOf]
  | q :: l, b => by
    have ih := fp_owned l b
    simp only [fpOf] at ih
    cases q with
    | none =>
      simp only [fpOf, List.map_cons, Option.bind_none, List.filterMap_cons, Option.map_none, ih]
      constructor
      · rintro ⟨i, h1, h2⟩; exact ⟨i, .tail _ h1, h2⟩
      · rintro ⟨i, h1, h2⟩
        cases h1 with
        | tail _ h1 => exact ⟨i, h1, h2⟩
    | some j =>
      simp only [fpOf, List.map_cons, Option.bind_some, List.mem_cons]
      cases hm : μ j with
      | none =>
        simp only [List.filterMap_cons, Option.map_none, ih]
        constructor
        · rintro ⟨i, h1, h2⟩; exact ⟨i, .inr h1, h2⟩
        · rintro ⟨i, h1 | h1, x, h2⟩
          · cases h1; rw [hm] at h2; cases h2
          · exact ⟨i, h1, x, h2⟩
      | some p =>
        obtain ⟨b', x'⟩ := p
        simp only [List.filterMap_cons, Option.map_some, List.mem_cons, ih]
        constructor
        · rintro (rfl | ⟨i, h1, h2⟩)
          · exact ⟨j, .inl rfl, x', hm⟩
          · exact ⟨i, .inr h1, h2⟩
        · rintro ⟨i, h1 | h1, x, h2⟩
          · cases h1; rw [hm] at h2; cases h2; exact .inl rfl
          · exact .inr ⟨i, h1, x, h2⟩

theorem fp_nodup (hinj : ∀ i i', (∃ o, objs i = some o ∧ o.wr = true) → (∃ o, objs i' = some o ∧ o.wr = true) → ∀ b x x', μ i = some (b, x) → μ i' = some (b, x') → i = i') :
    ∀ (l : List (Option Nat)), (ownedIds l).Nodup → (∀ i, some i ∈ l → ∃ o, objs i = some o ∧ o.wr = true) → (fpOf (l.map (·.bind μ))).Nodup
  | [], _, _ => by simp [fpOf]
  | none :: l, hn, hw => by
    have := fp_nodup hinj l (by simpa [ownedIds] using hn) (fun i hi => hw i (by simp [hi]))
    simpa [fpOf] using this
  | some j :: l, hn, hw => by
    have hn' : j ∉ ownedIds l ∧ (ownedIds l).Nodup := by
      have : ownedIds (some j :: l) = j :: ownedIds l := by simp [ownedIds]
      rw [this] at hn
      exact List.nodup_cons.1 hn
    have ih := fp_nodup hinj l hn'.2 (fun i hi => hw i (by simp [hi]))
    cases hm : μ j with
    | none =>
      have : fpOf ((some j :: l).map (·.bind μ)) = fpOf (l.map (·.bind μ)) := by simp [fpOf, hm]
      rw [this]; exact ih
    | some p =>
      obtain ⟨b, x⟩ := p
      have : fpOf ((some j :: l).map (·.bind μ)) = b :: fpOf (l.map (·.bind μ)) := by simp [fpOf, hm]
      rw [this]
      refine List.nodup_cons.2 ⟨fun hb => ?_, ih⟩
      obtain ⟨i, hi, x', hx'⟩ := (fp_owned l b).1 hb
      have := hinj j i (hw j (by simp)) (hw i (by simp [hi])) b x x' hm hx'
      subst this
      exact hn'.1 (ownedIds_mem.2 hi)

theorem AVsR.append : ∀ {as bs : List AV} {vs us : List Value}, AVsR w V μ objs as vs → AVsR w V μ objs bs us → AVsR w V μ objs (as ++ bs) (vs ++ us)
  | [], _, _, _, h, h' => by rw [show _ = _ from h]; exact h'
  | _ :: _, _, _, _, ⟨v, r, e, h1, h2⟩, h' => by subst e; exact ⟨v, _, rfl, h1, AVsR.append h2 h'⟩

theorem ptrs_ok : ∀ (ids : List Nat) (cs : List Value), PtrsR μ objs ids cs → AVsR w V μ objs (ids.map fun i => .cs false [.ptr i 0]) cs
  | [], _, h => h
  | _ :: ids, _, ⟨v, r, e, hp, h1, h2⟩ => ⟨v, r, e, AVR.mk1 hp h1, ptrs_ok ids r h2⟩

theorem callee_ok {av : AV} {v : Value} {g : FuncId} {ids : List Nat} (h : AVR w V μ objs av v) (hc : calleeOf av = some (g, ids)) : ∃ cs : List Value, v = .func (.func g) #[] cs.toArray ∧ PtrsR μ objs ids cs := by
  unfold calleeOf at hc
  split at hc <;> cases hc
  · exact ⟨[], h.one.2, rfl⟩
  · exact h.one.2

theorem also_ok (hO : ∀ id o, objs id = some o → ObR w V μ objs id o) (ow : List (Option Nat)) : ∀ (ps : List PSh) (as : List AV) (vs : List Value), AVsR w V μ objs as vs → alsoOk objs ow ps as = true →
    AlsoP (ow.map (·.bind μ)) ps vs
  | [], _, _, _, _ => by simp [AlsoP]
  | p :: ps, [], vs, h, _ => by rw [show vs = [] from h]; cases p <;> simp [AlsoP]
  | p :: ps, a :: as, _, ⟨v, us, rfl, h1, h2⟩, hk => by
    have go : alsoOk objs ow ps as = true → AlsoP (ow.map (·.bind μ)) ps us := also_ok hO ow ps as us h2
    cases p with
    | also k =>
      simp only [alsoOk, Bool.and_eq_true] at hk
      obtain ⟨hk1, hk2⟩ := hk
      split at hk1 <;> try (cases hk1; done)
      rename_i i j hi hj
      simp only [Bool.and_eq_true] at hk1
      have := Nat.eq_of_beq_eq_true hk1.1
      subst this
      have := AV.ptrId_eq hi
      subst this
      refine ⟨?_, go hk2⟩
      have hp := h1.one.2
      have hv0 := hk1.2
      unfold isVar at hv0
      split at hv0
      · rename_i nm cs ho
        obtain ⟨b, q, hm, hv⟩ := hp.2 cs nm ho
        obtain ⟨b2, _, _, _, hm2, _⟩ := hO i _ ho
        have hm2 : μ i = some (b2, 0) := hm2
        rw [hm] at hm2
        cases hm2
        exact ⟨b, by simp [hj, hm], hv⟩
      · cases hv0
    | _ => exact go hk

theorem evCall_ok (R : RelM w0 U S ⟨slots, objs⟩ a w V μ) {env : List (Ent P)} {c : Call} {n : Nat} (hop : o.op = .call c) {k : AV → Objs → Option β} (h : evCall env c ⟨slots, objs⟩ n k = some z)
    {next : Act → World → Prop} {Q : Exit → Act → World → Prop}
    (hnext : ∀ av v w' objs' V' μ', RelM w0 U S ⟨slots, objs'⟩ a w' V' μ' → AVR w' V' μ' objs' av v → k av objs' = some z → next (a.put o.dst v) w') : o.wp P a w next Q := by
  unfold evCall at h
  split at h <;> try (cases h; done)
  rename_i f hcal
  split at h <;> try (cases h; done)
  rename_i g ids hf
  obtain ⟨caught, hfv, hptrs⟩ := callee_ok (R.val f) hf
  split at h <;> try (cases h; done)
  rename_i e hent
  have heg := findEnt_g hent
  subst heg
  split at h <;> try (cases h; done)
  rename_i pk hpk
  obtain ⟨hchk, h⟩ := cond_some h
  simp only [Bool.and_eq_true] at hchk
  obtain ⟨⟨halso, hchk1⟩, hchk2⟩ := hchk
  have hchk := And.intro hchk1 hchk2
  have hKnd := nodupN_ok hchk.1
  have hdis : ∀ i ∈ pk.lent, i ∉ ownedIds pk.owned := by
    intro i hi hm
    have := List.all_eq_true.1 hchk.2 i hi
    rw [List.contains_iff_mem.2 hm] at this
    cases this
  obtain ⟨yy, hF, h⟩ := opt_bind_some h
  have hfacts := packL_facts _ _ pk hpk
  have hargs : AVsR w V μ objs (callArgs ⟨slots, objs⟩ c ids) (c.args.toList.map a.eval ++ caught) := AVsR.append (vals_ok R c.args.toList) (ptrs_ok ids caught hptrs)
  -- the state in which it is called
  have hst : ∃ V1, RelM w0 U S ⟨slots, cond (noSlL e.sig.res && noSlL (posts e.sig.args)) objs (frz pk.lent objs)⟩ a w V1 μ ∧ (∀ b, V1 b → V b) ∧
      ((noSlL e.sig.res && noSlL (posts e.sig.args)) = true ∨ ∀ i ∈ pk.lent, ∀ b x, μ i = some (b, x) → ¬ V1 b) := by
    cases hfl : (noSlL e.sig.res && noSlL (posts e.sig.args)) with
    | true => exact ⟨V, R, fun _ h => h, .inl rfl⟩
    | false =>
      obtain ⟨V1, R1, _, h2, h3⟩ := R.frz pk.lent
      refine ⟨V1, R1, h2, .inr fun i hi b x hm => ?_⟩
      obtain ⟨e1, xs1, wr1, ho⟩ := hfacts.1 i hi
      exact h3 i hi e1 xs1 wr1 ho b x hm
  obtain ⟨V1, R1, hVV, hlent⟩ := hst
  unfold evAfter at h
  simp only at h
  generalize hob1 : cond (noSlL e.sig.res && noSlL (posts e.sig.args)) objs (frz pk.lent objs) = objs1 at h R1
  have hob1K : ∀ i ∈ ownedIds pk.owned, objs1 i = objs i := by
    intro i hi
    subst hob1
    cases (noSlL e.sig.res && noSlL (posts e.sig.args)) with
    | true => rfl
    | false => exact frz_other (fun hm => hdis i hm hi)
  obtain ⟨hasgchk, h⟩ := cond_some h
  simp only [Bool.and_eq_true] at hasgchk
  obtain ⟨⟨hnores, hasgchk1⟩, hasgchk2⟩ := hasgchk
  have hasgchk := And.intro hasgchk1 hasgchk2
  split at h <;> try (cases h; done)
  rename_i v hret
  -- the call itself
  have hW : ∀ b, (V1 b ∧ ¬ ∃ i ∈ pk.lent, ∃ x, μ i = some (b, x)) → V b := fun b hb => hVV b hb.1
  have hholds := packL_ok (W := fun b => V1 b ∧ ¬ ∃ i ∈ pk.lent, ∃ x, μ i = some (b, x)) R.objs hW e.sig.args _ _ pk hargs hpk
    (fun i hi b x hm hb => hb.2 ⟨i, hi, x, hm⟩)
  have hKw : ∀ i ∈ ownedIds pk.owned, ∃ o, objs i = some o ∧ o.wr = true := fun i hi => hfacts.2 i (ownedIds_mem.1 hi)
  have hfpnd : (fpOf (pk.owned.map (·.bind μ))).Nodup := fp_nodup (objs := objs) (fun i i' ⟨o1, h1, h2⟩ ⟨o2, h3, h4⟩ b x x' h5 h6 => R.inj i i' o1 o2 b x x' h1 h3 h2 h4 h5 h6) pk.owned hKnd
    (fun i hi => hfacts.2 i hi)
  have hfpK : ∀ b ∈ fpOf (pk.owned.map (·.bind μ)), ∃ i ∈ ownedIds pk.owned, ∃ x, μ i = some (b, x) := by
    intro b hb
    obtain ⟨i, hi, hx⟩ := (fp_owned pk.owned b).1 hb
    exact ⟨i, ownedIds_mem.2 hi, hx⟩
  have hfpU : ∀ b ∈ fpOf (pk.owned.map (·.bind μ)), (V1 b ∧ ¬ ∃ i ∈ pk.lent, ∃ x, μ i = some (b, x)) := by
    intro b hb
    obtain ⟨i, hi, x, hx⟩ := hfpK b hb
    obtain ⟨o1, h1, h2⟩ := hKw i hi
    refine ⟨R1.inV i o1 b x (show objs1 i = some o1 from by rw [hob1K i hi]; exact h1) h2 hx, ?_⟩
    rintro ⟨j, hj, x', hx'⟩
    obtain ⟨e1, xs1, wr1, ho⟩ := hfacts.1 j hj
    cases wr1 with
    | true =>
      have := R.inj i j o1 _ b x x' h1 ho h2 rfl hx hx'
      subst this
      exact hdis i hj hi
    | false =>
      rcases R.objs j _ ho with ⟨k1, _⟩ | ⟨b2, o2, vs2, ty2, fr2, k1, _, _, k4, _⟩
      · have k1 : μ j = none := k1; rw [hx'] at k1; cases k1
      · have k1 : μ j = some (b2, o2) := k1
        rw [hx'] at k1
        cases k1
        exact k4 rfl (R.inV i o1 b x h1 h2 hx)
  have hcall := e.ok pk.val yy hF w _ _ _ hholds (also_ok R.objs pk.owned _ _ _ hargs halso) hfpnd hfpU (fun b hb => R.vlt b (hW b hb))
  have hrun : (execOp a.eval o).run P w = .ok (.enter e.g (c.args.toList.map a.eval ++ caught).toArray) w := by
    have hm : (c.args.toList.map a.eval ++ caught).toArray = c.args.map a.eval ++ caught.toArray := by apply Array.ext'; simp
    rw [execOp, hop, hm]
    simp [resolve, hcal, hfv, Deferred.ofValue, invoke, e.enter]
  unfold Oper.wp
  rw [hrun]
  simp only [Oper.upon]
  refine hcall.mono ?_
  rintro en w' ⟨rs, p1, p2, rfl, hres, hpost, hnd, hroots, hmoved⟩
  simp only
  -- what has come back, over the caller's own bounds
  have hconv : ∀ (ps : List PSh) (x : ElL ps) (vs : List Value) (pl : Places), (noSlL ps = true ∨ ∀ i ∈ pk.lent, ∀ b x, μ i = some (b, x) → ¬ V1 b) → HoldsL w' (fun b => ((V1 b ∧ ¬ ∃ i ∈ pk.lent, ∃ x, μ i = some (b, x)) ∧ b ∉ fpOf (pk.owned.map (·.bind μ))) ∨ b ∈ fpOf (p1 ++ p2)) ps x vs pl →
      HoldsL w' (fun b => (V1 b ∧ b ∉ fpOf (pk.owned.map (·.bind μ))) ∨ b ∈ fpOf (p1 ++ p2)) ps x vs pl := by
    intro ps x vs pl hcase hh
    rcases hcase with hf | hl
    · exact HoldsL.noSl ps x vs pl hf hh
    · refine HoldsL.same (fun b o hv ho => ⟨fun hb => hv ?_, ho⟩) ps x vs pl hh (fun _ _ _ h => h)
      rcases hb with ⟨h1, h2⟩ | h1
      · exact .inl ⟨⟨h1, fun ⟨i, hi, x, hx⟩ => hl i hi b x hx h1⟩, h2⟩
      · exact .inr h1
  have hres' := hconv _ _ _ _ (hlent.imp (fun h => (Bool.and_eq_true _ _ ▸ h).1) id) hres
  have hpost' := hconv _ _ _ _ (hlent.imp (fun h => (Bool.and_eq_true _ _ ▸ h).2) id) hpost
  have hrl := mintL_len _ _ _ _ n hres'
  have hpok := post_ok R.objs e.sig.args _ _ pk yy.2 (n + (mintL n e.sig.res yy.1).2.length) p2 hargs hpk hpost' hroots
  obtain ⟨hpl, hp2, hp3⟩ := hpok
  -- the assignment
  generalize hasg : enumT false n (mintL n e.sig.res yy.1).2 ++ postT objs e.sig.args (callArgs ⟨slots, objs⟩ c ids) yy.2 (n + (mintL n e.sig.res yy.1).2.length) = asgT at h hasgchk
  have hel := enumT_length (t := false) (mintL n e.sig.res yy.1).2 n
  have help : (enumT false n (mintL n e.sig.res yy.1).2).length = p1.length := by rw [hel, hrl]
  have hasgl : asgT.length = (p1 ++ p2).length := by rw [← hasg, List.length_append, List.length_append, help, hpl]
  have hparts : ∀ (j : Nat) zz, asgT[j]? = some zz → (j < p1.length ∧ zz.1 = false ∧ zz.2.1 = n + j ∧ (mintL n e.sig.res yy.1).2[j]? = some zz.2.2) ∨
      (p1.length ≤ j ∧ (postT objs e.sig.args (callArgs ⟨slots, objs⟩ c ids) yy.2 (n + (mintL n e.sig.res yy.1).2.length))[j - p1.length]? = some zz) := by
    intro j zz hz
    rw [← hasg] at hz
    rcases append_get hz with hz | ⟨hge, hz⟩
    · obtain ⟨e1, e2, e3⟩ := enumT_get _ _ _ _ hz
      have := (List.getElem?_eq_some_iff.1 hz).1
      exact .inl ⟨by omega, e1, e2, e3⟩
    · rw [help] at hge hz
      exact .inr ⟨hge, hz⟩
  have hfresh : ∀ (j : Nat) zz, asgT[j]? = some zz → zz.1 = false → objs1 zz.2.1 = none := by
    intro j zz hz ht
    have := List.all_eq_true.1 hasgchk.2 zz (List.mem_of_getElem? hz)
    rw [ht, Bool.false_or, Bool.and_eq_true] at this
    exact Option.isNone_iff_eq_none.1 this.1
  have hnames : ∀ (j : Nat) zz, asgT[j]? = some zz → zz.1 = false → noName zz.2.2 = true := by
    intro j zz hz ht
    have := List.all_eq_true.1 hasgchk.2 zz (List.mem_of_getElem? hz)
    rw [ht, Bool.false_or, Bool.and_eq_true] at this
    exact this.2
  have hmget : ∀ (j i : Nat) ob, (asgT.map fun z => z.2)[j]? = some (i, ob) → ∃ zz, asgT[j]? = some zz ∧ zz.2 = (i, ob) := by
    intro j i ob hj
    rw [List.getElem?_map] at hj
    cases hz : asgT[j]? with
    | none => rw [hz] at hj; cases hj
    | some zz => rw [hz] at hj; simp only [Option.map_some, Option.some.injEq] at hj; exact ⟨zz, rfl, hj⟩
  have hidnd : ((asgT.map fun z => z.2).map Prod.fst).Nodup := by
    have := nodupN_ok hasgchk.1
    simpa [List.map_map, Function.comp_def] using this
  have hmapat : ∀ (j : Nat) zz, asgT[j]? = some zz → (asgT.map fun z => z.2)[j]? = some (zz.2.1, zz.2.2) := by
    intro j zz hz
    rw [List.getElem?_map, hz]; rfl
  -- memory and objects behind the call
  have hobj' : ∀ (j : Nat) zz, asgT[j]? = some zz → assign (asgT.map fun z => z.2) (ownedIds pk.owned) objs1 zz.2.1 = some zz.2.2 := by
    intro j zz hz
    unfold assign
    rw [lookupOb_at hidnd (hmapat j zz hz)]
  have hmu' : ∀ (j : Nat) zz p, asgT[j]? = some zz → (p1 ++ p2)[j]? = some p → assignMu (asgT.map fun z => z.2) (p1 ++ p2) μ zz.2.1 = p := by
    intro j zz p hz hp
    unfold assignMu
    rw [lookupPl_at hidnd (hmapat j zz hz) hp]
  have hmint := HoldsL.mint _ _ _ _ hres' n (assignMu (asgT.map fun z => z.2) (p1 ++ p2) μ) (assign (asgT.map fun z => z.2) (ownedIds pk.owned) objs1) (noAlso_ok _ _ hnores)
    (fun j q hj => by
      have hjl : j < p1.length := (List.getElem?_eq_some_iff.1 hj).1
      have hz := enumT_at (t := false) (mintL n e.sig.res yy.1).2 n j _ (List.getElem?_eq_getElem (by omega : j < (mintL n e.sig.res yy.1).2.length))
      have hz' : asgT[j]? = some (false, (n + j, (mintL n e.sig.res yy.1).2[j])) := by
        rw [← hasg, List.getElem?_append_left (by omega)]; exact hz
      exact hmu' j _ q hz' (by rw [List.getElem?_append_left hjl]; exact hj))
    (fun j ob hj => by
      have hjl := (List.getElem?_eq_some_iff.1 hj).1
      have hz := enumT_at (t := false) (mintL n e.sig.res yy.1).2 n j ob hj
      have hz' : asgT[j]? = some (false, (n + j, ob)) := by
        rw [← hasg, List.getElem?_append_left (by omega)]; exact hz
      exact hobj' j _ hz')
  obtain ⟨_, hav, hobs⟩ := hmint
  have hshift : ∀ (j : Nat) zz, (postT objs e.sig.args (callArgs ⟨slots, objs⟩ c ids) yy.2 (n + (mintL n e.sig.res yy.1).2.length))[j]? = some zz → asgT[p1.length + j]? = some zz := by
    intro j zz hz
    rw [← hasg, List.getElem?_append_right (by omega), help, Nat.add_sub_cancel_left]
    exact hz
  have hpostO := hp3 (assignMu (asgT.map fun z => z.2) (p1 ++ p2) μ) (assign (asgT.map fun z => z.2) (ownedIds pk.owned) objs1) (fun j zz hz => hobj' _ zz (hshift j zz hz))
    (fun j zz p hz hp => hmu' _ zz p (hshift j zz hz) (by rw [List.getElem?_append_right (by omega), Nat.add_sub_cancel_left]; exact hp))
  have hcalled := R1.called (w' := w') (K := ownedIds pk.owned) (fp := fpOf (pk.owned.map (·.bind μ))) (fp' := fpOf (p1 ++ p2)) (asg := asgT.map fun z => z.2) (plc := p1 ++ p2)
    (fun i hi => show ∃ o, objs1 i = some o ∧ o.wr = true from by rw [hob1K i hi]; exact hKw i hi) hfpK hmoved (by simpa using hasgl) (fun b => Iff.rfl) hnd
    (fun j i ob p hj hp => by
      obtain ⟨zz, hz, hzz⟩ := hmget j i ob hj
      have hi : zz.2.1 = i := by rw [hzz]
      have hob : zz.2.2 = ob := by rw [hzz]
      rcases hparts j zz hz with ⟨hlt, ht, _, hm⟩ | ⟨hge, hz2⟩
      · refine ⟨by rw [← hob]; exact (hobs j _ hm).2, .inl ?_⟩
        rw [← hi]; exact hfresh j zz hz ht
      · have hp' : p2[j - p1.length]? = some p := by rwa [List.getElem?_append_right hge] at hp
        obtain ⟨k1, k2⟩ := hp2 _ zz p hz2 hp'
        refine ⟨by rw [← hob]; exact k1, ?_⟩
        cases ht : zz.1 with
        | false => left; rw [← hi]; exact hfresh j zz hz ht
        | true =>
          right
          obtain ⟨m1, ⟨o1, m2, m3⟩, m4⟩ := k2 ht
          have hiK : zz.2.1 ∈ ownedIds pk.owned := ownedIds_mem.2 m1
          rw [hi] at hiK m2 m4
          rw [hob] at m3
          exact ⟨hiK, ⟨o1, show objs1 i = some o1 from by rw [hob1K i hiK]; exact m2, m3⟩, m4⟩)
    (fun j i kk cs hj hnone => by
      obtain ⟨zz, hz, hzz⟩ := hmget j i _ hj
      have hi : zz.2.1 = i := by rw [hzz]
      have hob : zz.2.2 = .var (some kk) cs := by rw [hzz]
      cases ht : zz.1 with
      | false =>
        have := hnames j zz hz ht
        rw [hob] at this
        cases this
      | true =>
        rcases hparts j zz hz with ⟨hlt, hf, _, _⟩ | ⟨hge, hz2⟩
        · rw [hf] at ht; cases ht
        · have hjl := (List.getElem?_eq_some_iff.1 hz2).1
          have hpl' : j - p1.length < List.length p2 := Nat.lt_of_lt_of_eq hjl hpl
          obtain ⟨_, k2⟩ := hp2 _ zz _ hz2 (List.getElem?_eq_getElem hpl')
          obtain ⟨m1, ⟨o1, m2, _⟩, _⟩ := k2 ht
          have hiK : zz.2.1 ∈ ownedIds pk.owned := ownedIds_mem.2 m1
          have hnone : objs1 i = none := hnone
          rw [← hi, hob1K _ hiK] at hnone
          have m2 : objs zz.2.1 = some o1 := m2
          rw [m2] at hnone
          cases hnone)
    (fun j i ob hj => by
      obtain ⟨zz, hz, hzz⟩ := hmget j i ob hj
      have hi : zz.2.1 = i := by rw [hzz]
      have hob : zz.2.2 = ob := by rw [hzz]
      rcases hparts j zz hz with ⟨hlt, ht, he, hm⟩ | ⟨hge, hz2⟩
      · have := (hobs j _ hm).1
        rw [← he, hi, hob] at this
        exact this
      · have := hpostO _ zz hz2
        rw [hi, hob] at this
        exact this)
  exact hnext v (retVal rs) w' _ _ _ hcalled.1 (ret_ok hav hret) h

end evc
end Go.Fw

namespace Go.Fw
open Go

/-! ## operations in their order -/
section ops
variable {P : Program} {β : Type}

def evOper (T : Tys) (env : List (Ent P)) (o : Oper) (σ : AS) (k : AV → Objs → Option β) : Option β :=
  match o.op with
  | .call c => (match c.callee with
    | .value _ => evCall env c σ (nid o) k
    | _ => evVal T o σ k)
  | _ => evVal T o σ k

open Classical in
/-- what comes of it either way -/
noncomputable def both (x z : Option β) : Option β := if x = z then x else none

theorem both_some {x z : Option β} {y : β} (h : both x z = some y) : x = some y ∧ z = some y := by
  unfold both at h
  split at h
  · rename_i e; exact ⟨h, by rw [← e]; exact h⟩
  · cases h

theorem both_self (x : Option β) : both x x = x := by simp [both]

/-- a slice, held against nil -/
def isNilC : Operand → Bool
  | .const (.slice none 0 0) => true
  | _ => false

def sliceLen (objs : Objs) : AV → Option Nat
  | .cs false [.str _] => none
  | .cs false [c] => lenC objs c
  | _ => none

def nilCmp (T : Tys) (o : Oper) (σ : AS) : Option (Bool × Nat) :=
  match o.op with
  | .binOp op t x y _ => (match T.get t with
    | some ti => (match ti.kind with
      | .slice _ => cond (isNilC y) (match sliceLen σ.objs (σ.val x), op with
        | some n, .eql => some (true, n)
        | some n, .neq => some (false, n)
        | _, _ => none) none
      | _ => none)
    | none => none)
  | _ => none

noncomputable def evStep (T : Tys) (env : List (Ent P)) (o : Oper) (σ : AS) (k : AV → Objs → Option β) : Option β :=
  match nilCmp T o σ with
  | some (b, n) => cond (Nat.beq n 0) (both (k (.cs false [.bool true]) σ.objs) (k (.cs false [.bool false]) σ.objs)) (k (.cs false [.bool (!b)]) σ.objs)
  | none => evOper T env o σ k

def setB (σ : AS) (d : Nat) (t : Bool) : AS := ⟨putSlot σ.slots d (.cs false [.bool t]), σ.objs⟩

def evGuard (ops : List Oper) (g : Option (Nat × Bool)) (σ : AS) (yes no : AS → Option β) : Option β :=
  match g with
  | none => yes σ
  | some (j, want) => (match (ops[j]?).bind (·.dst) with
    | some d => (match σ.slots d with
      | .cs false [.bool b] => cond b
          (cond want (yes (setB σ d true)) (no (setB σ d true)))
          (cond want (no (setB σ d false)) (yes (setB σ d false)))
      | .tup [] => no σ
      | _ => none)
    | none => none)

def dstOk (N : List Nat × Nat) : Option Nat → Bool
  | some d => !(N.1.contains d) && Nat.ble (d + 1) N.2
  | none => true

noncomputable def evOps (T : Tys) (env : List (Ent P)) (N : List Nat × Nat) (ops : List Oper) : List Oper → AS → (AS → Option β) → Option β
  | [], σ, k => k σ
  | o :: r, σ, k => cond (dstOk N o.dst) (evGuard ops o.guard σ
      (fun σ => evStep T env o σ fun v objs' => evOps T env N ops r ⟨putDst σ.slots o.dst v, objs'⟩ k)
      (fun σ => evOps T env N ops r ⟨putDst σ.slots o.dst (.tup []), σ.objs⟩ k)) none

end ops

/-- what holds of the frame: it has room, and its arguments lie in it still -/
def BaseN (N : List Nat × Nat) (A : List Value) (a : Act) : Prop := N.2 ≤ a.tmps.size ∧ ∀ (i : Nat) v, i ∈ N.1 → A[i]? = some v → a.tmps[i]? = some v

def RelN (N : List Nat × Nat) (A : List Value) (w0 : World) (U : Nat → Prop) (S : Own) (σ : AS) (a : Act) (w : World) : Prop :=
  BaseN N A a ∧ ∃ V μ, RelM w0 U S σ a w V μ

section ok
variable {P : Program} {w0 : World} {U : Nat → Prop} {S : Own} {a : Act} {w : World} {V : Nat → Prop} {μ : Mu} {slots : Nat → AV} {objs : Objs} {β : Type} {y : β} {T : Tys} {env : List (Ent P)} {N : List Nat × Nat} {A : List Value}

theorem evOper_ok (hT : TOk P T) {o : Oper} {k : AV → Objs → Option β} (R : RelM w0 U S ⟨slots, objs⟩ a w V μ) (h : evOper T env o ⟨slots, objs⟩ k = some y)
    {next : Act → World → Prop} {Q : Exit → Act → World → Prop}
    (hnext : ∀ av v w' objs' V' μ', RelM w0 U S ⟨slots, objs'⟩ a w' V' μ' → AVR w' V' μ' objs' av v → k av objs' = some y → next (a.put o.dst v) w') : o.wp P a w next Q := by
  have hv : evVal T o ⟨slots, objs⟩ k = some y → o.wp P a w next Q := by
    intro h
    obtain ⟨nx, w', av, objs', V', μ', h1, h2, h3, h4⟩ := evVal_ok R hT h
    unfold Oper.wp
    rw [h1]
    rcases h2 with ⟨v, rfl, hv⟩ | ⟨rfl, rfl⟩
    · exact hnext av v w' objs' V' μ' h3 hv h4
    · exact hnext .undef undef w' objs' V' μ' h3 trivial h4
  unfold evOper at h
  split at h
  · rename_i c hop
    split at h
    · rename_i f hc
      exact evCall_ok R hop h hnext
    · exact hv h
  · exact hv h

theorem slice_nil {c : Cell} {v : Value} {n : Nat} (hns : ∀ s, c ≠ .str s) (h : lenC objs c = some n) (hc : CellR w V μ objs c v) : ∃ ad cap, v = .slice ad n cap ∧ (n ≠ 0 → ad.isNone = false) := by
  have own : ∀ {m : Option (Nat × Nat)} {k off len : Nat} {v : Value}, OwnRef w m k off len v → ∃ ad cap, v = .slice ad len cap ∧ (len ≠ 0 → ad.isNone = false) := by
    rintro m k off len v ⟨ad, cap, rfl, hle, hm⟩
    refine ⟨ad, cap, rfl, fun h0 => ?_⟩
    cases m with
    | none => exact absurd hm (by omega)
    | some p =>
      obtain ⟨h1, _⟩ := hm
      rw [h1.resolve_left (by omega)]; rfl
  unfold lenC at h
  split at h
  · exact absurd rfl (hns _)
  · cases h; obtain ⟨ad, rfl⟩ := hc; exact ⟨ad, 0, rfl, fun h => absurd rfl h⟩
  · cases h
    obtain ⟨ad, cap, rfl, _, hx⟩ := hc
    refine ⟨ad, cap, rfl, fun h0 => ?_⟩
    rcases hx with hx | ⟨p, hp, _⟩
    · rw [hx] at h0; exact absurd rfl h0
    · rw [hp]; rfl
  · split at h <;> cases h
    rename_i id e xs wr ho
    exact own (hc.2 _ _ _ ho)
  · split at h <;> cases h
    rename_i id off _ e xs wr ho
    exact own (hc.2 _ _ _ ho).2
  · cases h

theorem nil_run {t : TypeId} {e : TypeId} (ht : P.underlying t = some (.slice e)) (x z : Operand) (ad : Option Addr) (n cap : Nat) :
    (eqGuard .eql t x z (.slice ad n cap) (.slice none 0 0)).run P w = .ok () w ∧ (Go.binOp .eql t (.slice ad n cap) (.slice none 0 0)).run P w = .ok (.bool ad.isNone) w ∧
    (eqGuard .neq t x z (.slice ad n cap) (.slice none 0 0)).run P w = .ok () w ∧ (Go.binOp .neq t (.slice ad n cap) (.slice none 0 0)).run P w = .ok (.bool (!ad.isNone)) w := by
  have he : (Op.equal t (.slice ad n cap) (.slice none 0 0)).run P w = .ok ad.isNone w := by
    unfold Op.equal Op.maxDepth Op.equalIn
    cases ad <;> simp [run_under ht]
  refine ⟨eqGuard_plain (by simp) (by simp), ?_, eqGuard_plain (by simp) (by simp), ?_⟩
  · simp only [Go.binOp, Sem.run_bind, he, Result.andThen_ok, Sem.run_pure]
  · simp only [Go.binOp, Sem.run_bind, he, Result.andThen_ok, Sem.run_pure]

theorem evStep_ok (hT : TOk P T) {o : Oper} {k : AV → Objs → Option β} (R : RelM w0 U S ⟨slots, objs⟩ a w V μ) (h : evStep T env o ⟨slots, objs⟩ k = some y)
    {next : Act → World → Prop} {Q : Exit → Act → World → Prop}
    (hnext : ∀ av v w' objs' V' μ', RelM w0 U S ⟨slots, objs'⟩ a w' V' μ' → AVR w' V' μ' objs' av v → k av objs' = some y → next (a.put o.dst v) w') : o.wp P a w next Q := by
  unfold evStep at h
  split at h
  · rename_i b n hcmp
    unfold nilCmp at hcmp
    split at hcmp <;> try (cases hcmp; done)
    rename_i op t x z yt hop
    split at hcmp <;> try (cases hcmp; done)
    rename_i ti hti
    split at hcmp <;> try (cases hcmp; done)
    rename_i e hk
    obtain ⟨hnil, hcmp⟩ := cond_some hcmp
    have hz : z = .const (.slice none 0 0) := by
      unfold isNilC at hnil
      split at hnil
      · rfl
      · cases hnil
    subst hz
    obtain ⟨_, _, _, d, _, _, _, _, _, _, hu, hd⟩ := hT _ _ hti
    rw [hk] at hd
    have hd : d = .slice e := hd
    subst hd
    have key : ∀ n, sliceLen objs (AS.val ⟨slots, objs⟩ x) = some n → ∃ ad cap, a.eval x = .slice ad n cap ∧ (n ≠ 0 → ad.isNone = false) := by
      intro n hn
      have hx := R.val x
      unfold sliceLen at hn
      split at hn <;> try (cases hn; done)
      rename_i c hns heq
      rw [heq] at hx
      exact slice_nil (fun s hs => by subst hs; exact hns s rfl) hn hx.one.2
    have fin : ∀ r : Bool, (execOp a.eval o).run P w = .ok (.value (.bool r)) w → k (.cs false [.bool r]) objs = some y → o.wp P a w next Q := by
      intro r hr hkr
      unfold Oper.wp
      rw [hr]
      exact hnext (.cs false [.bool r]) (.bool r) w objs V μ R (AVR.mk1 trivial rfl) hkr
    have both2 : ∀ r : Bool, (n ≠ 0 → r = !b) → cond (Nat.beq n 0) (both (k (.cs false [.bool true]) objs) (k (.cs false [.bool false]) objs)) (k (.cs false [.bool (!b)]) objs) = some y → k (.cs false [.bool r]) objs = some y := by
      intro r hr h
      cases hn : Nat.beq n 0 with
      | true =>
        rw [hn, cond_true] at h
        obtain ⟨h1, h2⟩ := both_some h
        cases r
        · exact h2
        · exact h1
      | false =>
        rw [hn, cond_false] at h
        rw [hr (fun h0 => by subst h0; cases hn)]
        exact h
    split at hcmp <;> cases hcmp
    · rename_i hn
      obtain ⟨ad, cap, hv, hne⟩ := key n hn
      have hr := nil_run (P := P) (w := w) hu x (.const (.slice none 0 0)) ad n cap
      refine fin ad.isNone ?_ (both2 _ (fun h0 => by rw [hne h0]; rfl) h)
      rw [execOp, hop]
      simp only [hv, show a.eval (.const (.slice none 0 0)) = .slice none 0 0 from rfl, Sem.run_bind, hr.1, hr.2.1, Result.andThen_ok, Sem.run_pure]
    · rename_i hn
      obtain ⟨ad, cap, hv, hne⟩ := key n hn
      have hr := nil_run (P := P) (w := w) hu x (.const (.slice none 0 0)) ad n cap
      refine fin (!ad.isNone) ?_ (both2 _ (fun h0 => by rw [hne h0]) h)
      rw [execOp, hop]
      simp only [hv, show a.eval (.const (.slice none 0 0)) = .slice none 0 0 from rfl, Sem.run_bind, hr.2.2.1, hr.2.2.2, Result.andThen_ok, Sem.run_pure]
  · exact evOper_ok hT R h hnext

theorem RelN.put {σ : AS} {dst : Option Nat} {av : AV} {v : Value} {V : Nat → Prop} {μ : Mu} (hN : BaseN N A a) (hd : dstOk N dst = true) (R : RelM w0 U S σ a w V μ) (hv : AVR w V μ σ.objs av v) :
    RelN N A w0 U S ⟨putDst σ.slots dst av, σ.objs⟩ (a.put dst v) w := by
  refine ⟨?_, V, μ, ?_⟩
  · cases dst with
    | none => exact hN
    | some d =>
      simp only [dstOk, Bool.and_eq_true] at hd
      obtain ⟨k1, k3⟩ := hN
      refine ⟨by simpa [Act.put] using k1, fun i v hp hi => ?_⟩
      have hne : d ≠ i := fun e => by
        subst e
        rw [List.contains_iff_mem.2 hp] at hd
        cases hd.1
      simp only [Act.put]
      rw [Array.getElem?_setIfInBounds, if_neg hne]
      exact k3 i v hp hi
  · refine RelM.put (slots := σ.slots) (objs := σ.objs) R (fun d hd' => ?_) hv
    subst hd'
    simp only [dstOk, Bool.and_eq_true] at hd
    have := Nat.le_of_ble_eq_true hd.2
    have := hN.1
    omega

theorem RelM.setB {σ : AS} {V : Nat → Prop} {μ : Mu} (R : RelM w0 U S σ a w V μ) {d : Nat} {b : Bool} (hd : σ.slots d = .cs false [.bool b]) : RelM w0 U S (Go.Fw.setB σ d b) a w V μ where
  slots t := by
    simp only [Go.Fw.setB, putSlot]
    by_cases htd : t = d
    · subst htd
      rw [Nat.beq_refl, cond_true, ← hd]
      exact R.slots t
    · have e : Nat.beq t d = false := by
        cases hb : Nat.beq t d with
        | false => rfl
        | true => exact (htd (Nat.eq_of_beq_eq_true hb)).elim
      rw [e, cond_false]
      exact R.slots t
  objs := R.objs
  inj := R.inj
  orig := R.orig
  inV := R.inV
  frame := R.frame
  sizes := R.sizes
  grow := R.grow
  quiet := R.quiet
  vlt := R.vlt
  ult := R.ult
  uv := R.uv
  defers := R.defers
  named := R.named

theorem slot_bool {σ : AS} {V : Nat → Prop} {μ : Mu} (R : RelM w0 U S σ a w V μ) {d : Nat} {b : Bool} (hd : σ.slots d = .cs false [.bool b]) : a.tmps[d]? = some (.bool b) := by
  have h := R.slots d
  rw [hd] at h
  have h2 : a.tmps.getD d undef = .bool b := h.one.2
  rw [Array.getD_eq_getD_getElem?] at h2
  cases hx : a.tmps[d]? with
  | none => rw [hx] at h2; cases h2
  | some v => rw [hx] at h2; simp only [Option.getD_some] at h2; rw [h2]

theorem slot_skip {σ : AS} {V : Nat → Prop} {μ : Mu} (R : RelM w0 U S σ a w V μ) {d : Nat} (hd : σ.slots d = .tup []) {b : Bool} : a.tmps[d]? ≠ some (.bool b) := by
  have h := R.slots d
  rw [hd] at h
  obtain ⟨vs, h1, h2⟩ := h
  have h2 : vs = [] := h2
  subst h2
  rw [Array.getD_eq_getD_getElem?] at h1
  intro hx
  rw [hx] at h1
  cases h1

theorem skipped {σ : AS} {V : Nat → Prop} {μ : Mu} : AVR w V μ σ.objs (.tup []) undef := ⟨[], rfl, rfl⟩

theorem yielded_skip {σ : AS} {V : Nat → Prop} {μ : Mu} (R : RelM w0 U S σ a w V μ) {ops : Array Oper} {j d : Nat} (hj : (ops[j]?).bind (·.dst) = some d) (hd : σ.slots d = .tup []) : yielded ops a.tmps j = none := by
  simp only [yielded, hj, Option.bind_some]
  split
  · rename_i b hb
    exact absurd hb (slot_skip R hd)
  · rfl

theorem evGuard_ok {ops : Array Oper} {o : Oper} {σ : AS} {yes no : AS → Option β} (hR : RelN N A w0 U S σ a w) (h : evGuard ops.toList o.guard σ yes no = some y) :
    ∃ σ', RelN N A w0 U S σ' a w ∧ ((Region.wanted o (yielded ops a.tmps) = true ∧ yes σ' = some y) ∨ (Region.wanted o (yielded ops a.tmps) = false ∧ no σ' = some y)) := by
  unfold evGuard at h
  split at h
  · rename_i hg
    exact ⟨σ, hR, .inl ⟨by simp [Region.wanted, hg], h⟩⟩
  · rename_i j want hg
    split at h <;> try (cases h; done)
    rename_i d hd
    rw [Array.getElem?_toList] at hd
    split at h <;> try (cases h; done)
    · rename_i b hb
      obtain ⟨hN, V, μ, R⟩ := hR
      have hy : yielded ops a.tmps j = some b := by
        simp only [yielded, hd, Option.bind_some]
        rw [slot_bool R hb]
      have hw : Region.wanted o (yielded ops a.tmps) = (b == want) := by
        simp only [Region.wanted, hg, hy]
        cases b <;> cases want <;> rfl
      rw [hw]
      refine ⟨Go.Fw.setB σ d b, ⟨hN, V, μ, R.setB hb⟩, ?_⟩
      cases b <;> cases want <;> simp only [cond_true, cond_false] at h <;> first | exact .inl ⟨rfl, h⟩ | exact .inr ⟨rfl, h⟩
    · rename_i hb
      refine ⟨σ, hR, .inr ⟨?_, h⟩⟩
      obtain ⟨hN, V, μ, R⟩ := hR
      simp only [Region.wanted, hg, yielded_skip R hd hb]
      rfl

theorem evOps_ok (hT : TOk P T) {ops : Array Oper} {Q : Exit → Act → World → Prop} : ∀ (l pre : List Oper) (σ : AS) (k : AS → Option β) (a : Act) (w : World), ops.toList = pre ++ l → evOps T env N ops.toList l σ k = some y →
    RelN N A w0 U S σ a w → (∀ σ' a' w', RelN N A w0 U S σ' a' w' → k σ' = some y → Q .normal a' w') → wpOps P ops Q (List.range' pre.length l.length) a w
  | [], pre, σ, k, a, w, _, h, hR, hk => by
    simp only [evOps] at h
    exact hk σ a w hR h
  | o :: r, pre, σ, k, a, w, hl, h, hR, hk => by
    simp only [evOps] at h
    obtain ⟨hd, h⟩ := cond_some h
    have ho : ops[pre.length]? = some o := by rw [← Array.getElem?_toList, hl]; simp
    have hrec := fun σ a w h1 h2 => evOps_ok hT (Q := Q) r (pre ++ [o]) σ k a w (by rw [hl]; simp) h1 h2 hk
    rw [List.length_append] at hrec
    simp only [List.length_cons, List.range'_succ, wpOps, ho]
    obtain ⟨σ', hR', hc⟩ := evGuard_ok hR h
    rcases hc with ⟨hw, h⟩ | ⟨hw, h⟩
    · rw [hw, if_pos rfl]
      left
      obtain ⟨hN, V, μ, R⟩ := hR'
      refine evStep_ok hT (slots := σ'.slots) (objs := σ'.objs) R h ?_
      intro av v w' objs' V' μ' R' hv hk'
      exact hrec _ _ _ hk' (RelN.put hN hd R' hv)
    · rw [hw]
      simp only [Bool.false_eq_true, if_false]
      obtain ⟨hN, V, μ, R⟩ := hR'
      exact hrec _ _ _ h (RelN.put hN hd R skipped)

end ok
end Go.Fw

namespace Go.Fw
open Go

/-! ## states laid together, and laid out anew -/
abbrev Spec := List (Nat × PSh)

@[reducible] def specP : Spec → List PSh
  | [] => []
  | p :: l => p.2 :: specP l

def specT : Spec → List Nat
  | [] => []
  | p :: l => p.1 :: specT l

def lookSlot (u : Nat) : List Nat → List AV → AV
  | t :: ts, v :: vs => cond (Nat.beq u t) v (lookSlot u ts vs)
  | _, _ => .undef

def unpackSt (sp : Spec) (x : ElL (specP sp)) : AS :=
  ⟨fun u => lookSlot u (specT sp) (mintL 0 (specP sp) x).1, fun i => (mintL 0 (specP sp) x).2[i]?⟩

def packSt {β : Type} (sp : Spec) (σ : AS) (k : ElL (specP sp) → Option β) : Option β :=
  match packL σ.objs (specP sp) ((specT sp).map σ.slots) with
  | some pk => cond (noAlso (specP sp) && nodupN (ownedIds pk.owned) && pk.lent.all fun i => !((ownedIds pk.owned).contains i)) (k pk.val) none
  | none => none

section pk
variable {P : Program} {w0 : World} {U : Nat → Prop} {S : Own} {a : Act} {w : World} {V : Nat → Prop} {μ : Mu} {slots : Nat → AV} {objs : Objs} {β : Type} {y : β} {N : List Nat × Nat} {A : List Value}

theorem slots_ok {slots : Nat → AV} (h : ∀ t, AVR w V μ objs (slots t) (a.tmps.getD t undef)) : ∀ (l : List Nat), AVsR w V μ objs (l.map slots) (l.map fun t => a.tmps.getD t undef)
  | [] => rfl
  | t :: l => ⟨_, _, rfl, h t, slots_ok h l⟩

theorem look_ok : ∀ (ts : List Nat) (vs : List AV), AVsR w V μ objs vs (ts.map fun t => a.tmps.getD t undef) → ∀ u, AVR w V μ objs (lookSlot u ts vs) (a.tmps.getD u undef)
  | [], [], _, u => trivial
  | [], _ :: _, _, u => trivial
  | _ :: _, [], _, u => trivial
  | t :: ts, x :: vs, ⟨v, us, hv, h1, h2⟩, u => by
    simp only [List.map_cons, List.cons.injEq] at hv
    obtain ⟨e1, e2⟩ := hv
    subst e2
    simp only [lookSlot]
    cases hb : Nat.beq u t with
    | true =>
      have := Nat.eq_of_beq_eq_true hb
      subst this
      rw [cond_true, e1]
      exact h1
    | false => rw [cond_false]; exact look_ok ts vs h2 u

theorem mintS_owns : ∀ (s : Sh) (x : El s) (n : Nat), (mintS n s x).2.length = s.owns ∧ ∀ (j : Nat) (nm : Option Nat) (cs : List Cell), (mintS n s x).2[j]? ≠ some (Ob.var nm cs)
  | .int _, _, _ => ⟨rfl, fun j nm cs h => by simp [mintS] at h⟩
  | .bool, _, _ => ⟨rfl, fun j nm cs h => by simp [mintS] at h⟩
  | .str, _, _ => ⟨rfl, fun j nm cs h => by simp [mintS] at h⟩
  | .sl _, _, _ => ⟨rfl, fun j nm cs h => by simp [mintS] at h⟩
  | .unit, _, _ => ⟨rfl, fun j nm cs h => by simp [mintS] at h⟩
  | .own _, _, _ => ⟨rfl, fun j nm cs h => by cases j <;> simp [mintS] at h⟩
  | .pair a b, x, n => by
    obtain ⟨h1, h2⟩ := mintS_owns a x.1 n
    obtain ⟨h3, h4⟩ := mintS_owns b x.2 (n + (mintS n a x.1).2.length)
    refine ⟨by simp only [mintS, List.length_append, Sh.owns]; omega, fun j nm cs h => ?_⟩
    simp only [mintS] at h
    rcases append_get h with h | ⟨_, h⟩
    · exact h2 _ _ _ h
    · exact h4 _ _ _ h

theorem mintF_owns {loc : Nat → Nat} : ∀ (fs : List Fld) (x : El (fldsSh fs)) (m : Nat), (mintF loc m fs x).2.length = (fldsSh fs).owns ∧ ∀ (j : Nat) (nm : Option Nat) (cs : List Cell), (mintF loc m fs x).2[j]? ≠ some (Ob.var nm cs)
  | [], _, _ => ⟨rfl, fun j nm cs h => by simp [mintF] at h⟩
  | .s sh :: r, x, m => by
    obtain ⟨h1, h2⟩ := mintS_owns sh x.1 m
    obtain ⟨h3, h4⟩ := mintF_owns (loc := loc) r x.2 (m + (mintS m sh x.1).2.length)
    refine ⟨by simp only [mintF, List.length_append, Sh.owns]; omega, fun j nm cs h => ?_⟩
    simp only [mintF] at h
    rcases append_get h with h | ⟨_, h⟩
    · exact h2 _ _ _ h
    · exact h4 _ _ _ h
  | .p _ :: r, x, m => mintF_owns (loc := loc) r x m
  | .c _ _ :: r, x, m => mintF_owns (loc := loc) r x m

theorem mintN_owns {loc : Nat → Nat} {nmf : Nat → Nd → Option Nat} : ∀ (ns : List Nd) (x : El (netSh ns)) (m i : Nat), (mintN loc nmf m i ns x).2.length = (netSh ns).owns ∧ ∀ (j : Nat) (nm : Option Nat) (cs : List Cell), (mintN loc nmf m i ns x).2[j]? ≠ some (Ob.var nm cs)
  | [], _, _, _ => ⟨rfl, fun j nm cs h => by simp [mintN] at h⟩
  | n :: r, x, m, i => by
    obtain ⟨h1, h2⟩ := mintF_owns (loc := loc) n.fs x.1 m
    obtain ⟨h3, h4⟩ := mintN_owns (loc := loc) (nmf := nmf) r x.2 (m + (mintF loc m n.fs x.1).2.length) (i + 1)
    refine ⟨by simp only [mintN, List.length_append, Sh.owns]; omega, fun j nm cs h => ?_⟩
    simp only [mintN] at h
    rcases append_get h with h | ⟨_, h⟩
    · exact h2 _ _ _ h
    · exact h4 _ _ _ h

theorem packN_names {ids : List Nat} : ∀ (ns : List Nd) (il : List Nat) (t : TakenN ns), packN objs ids ns il = some t → ∀ (j k : Nat) (nd : Nd), ns[j]? = some nd → nd.nm = some k → ∃ i cs, il[j]? = some i ∧ objs i = some (.var (some k) cs)
  | [], _, _, _, j, _, _, h, _ => by simp at h
  | n :: r, il, t, h, j, k, nd, hj, hk => by
    cases il with
    | nil => simp only [packN] at h; cases h
    | cons id il =>
      simp only [packN] at h
      split at h <;> try (cases h; done)
      rename_i nm cs ho
      obtain ⟨hn, h⟩ := cond_some h
      split at h <;> try (cases h; done)
      split at h <;> cases h
      rename_i u hu
      cases j with
      | zero =>
        simp only [List.getElem?_cons_zero, Option.some.injEq] at hj
        subst hj
        rw [hk] at hn
        cases nm with
        | none => cases hn
        | some k' =>
          have := Nat.eq_of_beq_eq_true hn
          subst this
          exact ⟨id, cs, rfl, ho⟩
      | succ j => simpa using packN_names r il u hu j k nd (by simpa using hj) hk

theorem packP_mint (p : PSh) (av : AV) (t : Packed p) (h : packP objs p av = some t) (n : Nat) : (mintP n p t.val).2.length = t.owned.length ∧
    ∀ (j k : Nat) (cs : List Cell), (mintP n p t.val).2[j]? = some (Ob.var (some k) cs) → ∃ i cs', t.owned[j]? = some (some i) ∧ objs i = some (Ob.var (some k) cs') := by
  have hf := (packP_facts p av t h).2.2
  cases p with
  | val agg s =>
    obtain ⟨h1, h2⟩ := mintS_owns s t.val n
    exact ⟨by rw [show t.owned.length = s.owns from hf]; exact h1, fun j k cs hj => absurd hj (h2 _ _ _)⟩
  | ptr s =>
    obtain ⟨id, nm, cs0, r, _, _, ho, hr⟩ := hf
    obtain ⟨h1, h2⟩ := mintS_owns s t.val (n + 1)
    refine ⟨by rw [ho]; simp only [mintP, List.length_cons, h1, hr], fun j k cs hj => ?_⟩
    cases j with
    | zero => simp [mintP] at hj
    | succ j => exact absurd (by simpa [mintP] using hj) (h2 j (some k) cs)
  | brw e =>
    obtain ⟨id, xs, _, _, ho⟩ := hf
    refine ⟨by rw [ho]; rfl, fun j k cs hj => ?_⟩
    cases j <;> simp [mintP] at hj
  | net hd ns =>
    obtain ⟨c, ids, r, hc, hids, hlen, hvar, ho, hr⟩ := hf
    have hN1 := mintN_len (loc := (n + ·)) (nmf := fun _ nd => nd.nm) ns t.val (n + ns.length) 0
    obtain ⟨h1, h2⟩ := mintN_owns (loc := (n + ·)) (nmf := fun _ nd => nd.nm) ns t.val (n + ns.length) 0
    refine ⟨by rw [ho]; simp only [mintP, List.length_append, List.length_map, h1, hr, hN1, hlen], fun j k cs hj => ?_⟩
    simp only [mintP] at hj
    rcases append_get hj with hj | ⟨_, hj⟩
    · obtain ⟨cs1, nd, g1, g2⟩ := mintN_form (loc := (n + ·)) (nmf := fun _ nd => nd.nm) ns t.val (n + ns.length) 0 j _ hj
      have g2 : some k = nd.nm := by
        have := g2
        simp only [Ob.var.injEq] at this
        exact this.1
      simp only [packP, hc, hids] at h
      unfold packNet at h
      obtain ⟨_, h⟩ := cond_some h
      split at h <;> cases h
      rename_i t' ht _
      obtain ⟨i, cs', k1, k2⟩ := packN_names ns ids t' ht j k nd g1 g2.symm
      have hjl := (List.getElem?_eq_some_iff.1 k1).1
      exact ⟨i, cs', by simp only; rw [List.getElem?_append_left (by simpa using hjl), List.getElem?_map, k1]; rfl, k2⟩
    · exact absurd hj (h2 _ _ _)
  | also k =>
    have hf : t.owned = [] := hf
    exact ⟨by rw [hf]; rfl, fun j k cs hj => by simp [mintP] at hj⟩

theorem packL_mint : ∀ (ps : List PSh) (as : List AV) (t : PackedL ps), packL objs ps as = some t → ∀ (n : Nat), (mintL n ps t.val).2.length = t.owned.length ∧
    ∀ (j k : Nat) (cs : List Cell), (mintL n ps t.val).2[j]? = some (Ob.var (some k) cs) → ∃ i cs', t.owned[j]? = some (some i) ∧ objs i = some (Ob.var (some k) cs')
  | [], as, t, h, n => by
    cases as with
    | nil => simp only [packL] at h; cases h; exact ⟨rfl, fun j k cs hj => by simp [mintL] at hj⟩
    | cons b as => simp only [packL] at h; cases h
  | p :: ps, as, t, h, n => by
    cases as with
    | nil => simp only [packL] at h; cases h
    | cons b as =>
      simp only [packL] at h
      split at h <;> try (cases h; done)
      rename_i t1 h1
      split at h <;> cases h
      rename_i t2 h2
      obtain ⟨f1, f2⟩ := packP_mint p b t1 h1 n
      obtain ⟨g1, g2⟩ := packL_mint ps as t2 h2 (n + (mintP n p t1.val).2.length)
      refine ⟨by simp only [mintL, List.length_append]; omega, fun j k cs hj => ?_⟩
      simp only [mintL] at hj
      rcases append_get hj with hj | ⟨hge, hj⟩
      · obtain ⟨i, cs', k1, k2⟩ := f2 j k cs hj
        have hjl := (List.getElem?_eq_some_iff.1 k1).1
        exact ⟨i, cs', by simp only; rw [List.getElem?_append_left hjl]; exact k1, k2⟩
      · obtain ⟨i, cs', k1, k2⟩ := g2 _ k cs hj
        exact ⟨i, cs', by simp only; rw [List.getElem?_append_right (by omega), ← f1]; exact k1, k2⟩

theorem pack_ok {sp : Spec} {k : ElL (specP sp) → Option β} (R : RelM w0 U S ⟨slots, objs⟩ a w V μ) (h : packSt sp ⟨slots, objs⟩ k = some y) :
    ∃ v, k v = some y ∧ ∃ V' μ', RelM w0 U S (unpackSt sp v) a w V' μ' := by
  unfold packSt at h
  split at h <;> try (cases h; done)
  rename_i pk hpk
  obtain ⟨hchk, h⟩ := cond_some h
  simp only [Bool.and_eq_true] at hchk
  obtain ⟨⟨hnoalso, hchk1⟩, hchk2⟩ := hchk
  have hchk := And.intro hchk1 hchk2
  have hKnd := nodupN_ok hchk.1
  have hdis : ∀ i ∈ pk.lent, i ∉ ownedIds pk.owned := by
    intro i hi hm
    have := List.all_eq_true.1 hchk.2 i hi
    rw [List.contains_iff_mem.2 hm] at this
    cases this
  refine ⟨pk.val, h, ?_⟩
  have hfacts := packL_facts _ _ pk hpk
  have hargs : AVsR w V μ objs ((specT sp).map slots) ((specT sp).map fun t => a.tmps.getD t undef) := slots_ok R.slots _
  obtain ⟨V1, R1, _, hVV, h3⟩ := R.frz pk.lent
  have hholds := packL_ok (W := V1) R.objs hVV (specP sp) _ _ pk hargs hpk (fun i hi b x hm hb => by
    obtain ⟨e1, xs1, wr1, ho⟩ := hfacts.1 i hi
    exact h3 i hi e1 xs1 wr1 ho b x hm hb)
  have hfpnd : (fpOf (pk.owned.map (·.bind μ))).Nodup := fp_nodup (objs := objs) (fun i i' ⟨o1, h1, h2⟩ ⟨o2, h3, h4⟩ b x x' h5 h6 => R.inj i i' o1 o2 b x x' h1 h3 h2 h4 h5 h6) pk.owned hKnd
    (fun i hi => hfacts.2 i hi)
  generalize hpl : pk.owned.map (·.bind μ) = pl at hholds hfpnd
  have hmint := HoldsL.mint _ _ _ _ hholds 0 (fun i => (pl[i]?).getD none) (fun i => (mintL 0 (specP sp) pk.val).2[i]?) (noAlso_ok _ _ hnoalso)
    (fun j q hj => by simp [hj]) (fun j o ho => by simpa using ho)
  obtain ⟨_, hav, hobs⟩ := hmint
  have hplat : ∀ (i b x : Nat), (fun i => (pl[i]?).getD none) i = some (b, x) → pl[i]? = some (some (b, x)) := by
    intro i b x h
    simp only at h
    cases hp : pl[i]? with
    | none => rw [hp] at h; cases h
    | some q => rw [hp] at h; simp only [Option.getD_some] at h; rw [h]
  have hpk2 : ∀ (i b x : Nat), pl[i]? = some (some (b, x)) → ∃ j, some j ∈ pk.owned ∧ μ j = some (b, x) := by
    intro i b x h
    rw [← hpl, List.getElem?_map] at h
    cases hq : pk.owned[i]? with
    | none => rw [hq] at h; cases h
    | some q =>
      rw [hq] at h
      simp only [Option.map_some, Option.some.injEq] at h
      cases q with
      | none => cases h
      | some j => exact ⟨j, List.mem_of_getElem? hq, h⟩
  refine ⟨V1, (fun i => (pl[i]?).getD none), ?_⟩
  exact {
    slots := fun t => look_ok (specT sp) _ hav t
    objs := fun id o ho => by
      have := (hobs id o ho).1
      rwa [Nat.zero_add] at this
    inj := fun id id' o o' b x x' _ _ _ _ h5 h6 => fpOf_inj hfpnd (hplat _ _ _ h5) (hplat _ _ _ h6)
    orig := fun id o b x _ _ h3 => by
      obtain ⟨j, hj, hm⟩ := hpk2 _ _ _ (hplat _ _ _ h3)
      obtain ⟨o', ho', hw'⟩ := hfacts.2 j hj
      exact R.orig j o' b x ho' hw' hm
    inV := fun id o b x _ _ h3 => by
      obtain ⟨j, hj, hm⟩ := hpk2 _ _ _ (hplat _ _ _ h3)
      obtain ⟨o', ho', hw'⟩ := hfacts.2 j hj
      refine R1.inV j o' b x (show frz pk.lent objs j = some o' from ?_) hw' hm
      rw [frz_other (fun hl => hdis j hl (ownedIds_mem.2 hj))]
      exact ho'
    frame := R1.frame
    sizes := R1.sizes
    grow := R1.grow
    quiet := R1.quiet
    vlt := R1.vlt
    ult := R1.ult
    uv := R1.uv
    defers := R1.defers
    named := fun id k cs h => by
      obtain ⟨i, cs', h1, h2⟩ := (packL_mint (specP sp) _ pk hpk 0).2 id k cs h
      have := R.named i k cs' h2
      show (pl[id]?).getD none = _
      rw [← hpl, List.getElem?_map, h1]
      exact this }

end pk

/-! ## loops -/
section loops
variable {α β : Type}

def loopK (f : α → Option β) : α ⊕ β → Option β
  | .inl a => f a
  | .inr b => some b

def loopN (f : α → Option (α ⊕ β)) : Nat → α → Option β
  | 0, _ => none
  | n + 1, a => Option.bind (f a) (loopK (loopN f n))

open Classical in
noncomputable def loopC (f : α → Option (α ⊕ β)) (a : α) : Option β :=
  if h : ∃ n b, loopN f n a = some b then loopN f h.choose a else none

theorem loopN_succ {f : α → Option (α ⊕ β)} : ∀ (n : Nat) (a : α) (b : β), loopN f n a = some b → loopN f (n + 1) a = some b
  | 0, _, _, h => by cases h
  | n + 1, a, b, h => by
    simp only [loopN] at h ⊢
    cases hf : f a with
    | none => rw [hf] at h; cases h
    | some s =>
      rw [hf] at h
      cases s with
      | inl a' => exact loopN_succ n a' b h
      | inr b' => exact h

theorem loopN_le {f : α → Option (α ⊕ β)} {n m : Nat} (hle : n ≤ m) {a : α} {b : β} (h : loopN f n a = some b) : loopN f m a = some b := by
  induction hle with
  | refl => exact h
  | step _ ih => exact loopN_succ _ _ _ ih

theorem loopC_of {f : α → Option (α ⊕ β)} {n : Nat} {a : α} {b : β} (h : loopN f n a = some b) : loopC f a = some b := by
  unfold loopC
  have hex : ∃ n b, loopN f n a = some b := ⟨n, b, h⟩
  rw [dif_pos hex]
  obtain ⟨b', hb'⟩ := hex.choose_spec
  rw [hb']
  have h1 := loopN_le (Nat.le_max_left n hex.choose) h
  have h2 := loopN_le (Nat.le_max_right n hex.choose) hb'
  rw [h1] at h2
  exact h2.symm

theorem loopC_some {f : α → Option (α ⊕ β)} {a : α} {b : β} (h : loopC f a = some b) : ∃ n, loopN f n a = some b := by
  unfold loopC at h
  split at h
  · rename_i hex
    exact ⟨_, h⟩
  · cases h

theorem loopC_eq (f : α → Option (α ⊕ β)) (a : α) : loopC f a = Option.bind (f a) (loopK (loopC f)) := by
  cases hf : f a with
  | none =>
    cases hl : loopC f a with
    | none => rfl
    | some b =>
      obtain ⟨n, hn⟩ := loopC_some hl
      cases n with
      | zero => cases hn
      | succ n => simp only [loopN, hf] at hn; cases hn
  | some s =>
    cases s with
    | inr b => exact loopC_of (n := 1) (by simp [loopN, hf, loopK])
    | inl a' =>
      simp only [Option.bind_some, loopK]
      cases hl : loopC f a' with
      | some b =>
        obtain ⟨n, hn⟩ := loopC_some hl
        exact loopC_of (n := n + 1) (by simp only [loopN, hf, Option.bind_some, loopK]; exact hn)
      | none =>
        cases hl2 : loopC f a with
        | none => rfl
        | some b =>
          obtain ⟨n, hn⟩ := loopC_some hl2
          cases n with
          | zero => cases hn
          | succ n =>
            simp only [loopN, hf, Option.bind_some, loopK] at hn
            rw [loopC_of hn] at hl
            cases hl

end loops
end Go.Fw
