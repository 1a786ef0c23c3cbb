/- Rows made, maps. -/
import Derived.Test.YtiokdncglbfmlaaGreatDoorMSound3
import Derived.IntWalk
namespace Go.Am
open Go
section
variable {P : Program} {β : Beta} {s : St} {w : World}
theorem mmakeSlice_sound {t : TypeId} {len cap v len' cap' : Value} {s' : St} (h : mmakeSlice P t len cap s = some (v, s')) (h1 : ren β len = some len') (h2 : ren β cap = some cap') (hR : Rel P β s w) (hf : Fresh β s.c s'.c) :
    ∃ β' v' w', ren β' v = some v' ∧ (Instr.makeSlice t len' cap').run P w = .ok v' w' ∧ Step P β β' s s' w w' := by
  unfold mmakeSlice at h
  split at h
  · rename_i e k l k' c hu
    cases ren_int_inv h1
    cases ren_int_inv h2
    split at h
    · rename_i ie row hi hrow
      obtain ⟨hn, h⟩ := bif_none h
      cases h
      obtain ⟨hn, hlen⟩ := andb hn
      obtain ⟨hn, hc48⟩ := andb hn
      obtain ⟨hlc, hbytes⟩ := andb hn
      have hlc := ble_le hlc
      have hbytes := ble_le hbytes
      have hc48 := ble_le hc48
      have hlen := beq_eq hlen
      obtain ⟨ie', hi', hg, hrow'⟩ := mrow_sound hrow w
      rw [hi] at hi'
      cases hi'
      have hfc : β s.c = none := hf s.c (Nat.le_refl _) (by simp [mnew, St.new])
      have hst := cells_new (K := c) (junk := []) (e := e) hR (renL_ground (β := β) hg) hfc (by rw [List.append_nil, hlen]; simp [sz, hi])
      have hch : c < capHalf := by unfold capHalf; omega
      refine ⟨_, .slice (some ⟨w.heap.size, 0, none⟩) l c, _, ?_, ?_, hst⟩
      · simp [ren, Beta.put, renCap_lt hch]
      · have wl : IntKind.i64.wrap (Int.ofNat l) = (l : Int) := IntWalk.i64_in _ ⟨by simp only [Int.ofNat_eq_natCast]; omega, by simp only [Int.ofNat_eq_natCast]; omega⟩
        have wc : IntKind.i64.wrap (Int.ofNat c) = (c : Int) := IntWalk.i64_in _ ⟨by simp only [Int.ofNat_eq_natCast]; omega, by simp only [Int.ofNat_eq_natCast]; omega⟩
        have hb : ((ie.bytes : Int) * (c : Int)) ≤ 281474976710656 := by rw [← Int.natCast_mul]; omega
        simp only [Instr.makeSlice, Sem.run_bind, run_under hu, Result.andThen_ok, asInt, asIntOf, Sem.run_pure, run_info hi, wl, wc]
        have hcond : (decide ((c : Int) < 0) || decide ((ie.bytes : Int) * (c : Int) > 2 ^ 48) || decide ((l : Int) < 0) || decide ((l : Int) > (c : Int))) = false := by
          rw [decide_eq_false (by omega), decide_eq_false (by have : (2 : Int) ^ 48 = 281474976710656 := by decide
                                                              omega), decide_eq_false (by omega), decide_eq_false (by omega)]
          rfl
        rw [hcond, if_neg (by simp)]
        simp only [Sem.run_bind, run_askRoom, Result.andThen_ok, run_size hi, Int.toNat_natCast]
        rcases hrow' with ⟨h0, rfl⟩ | ⟨h0, z, hz, hrow'⟩
        · rw [if_pos h0]
          have e0 : ∀ (f : Nat → Value), Array.map f (Array.range (c * ie.size)) = ⟨[]⟩ := by intro f; rw [h0]; simp
          simp only [Sem.run_bind, Sem.run_pure, Result.andThen_ok, e0, List.append_nil, newRow, run_newObj, World.alloc_eq]
        · rw [if_neg h0]
          simp only [Sem.run_bind, hz, Sem.run_pure, Result.andThen_ok, hrow', List.append_nil, newRow, run_newObj, World.alloc_eq]
    · cases h
  · cases h

theorem pureRun_bind' {α γ : Type} (P : Program) (x : Sem α) (f : α → Sem γ) : pureRun P (x.bind f) = (pureRun P x).bind fun a => pureRun P (f a) := by
  induction x with
  | pure a => rfl
  | program k ih => exact ih P
  | mark m k ih => exact ih
  | _ => rfl
theorem pureRun_bind {α γ : Type} (P : Program) (x : Sem α) (f : α → Sem γ) : pureRun P (x >>= f) = (pureRun P x).bind fun a => pureRun P (f a) := pureRun_bind' P x f
def FR (β : Beta) : Option (Nat × Value) → Option (Nat × Value) → Prop
  | none, none => True
  | some (i, v), some (j, v') => i = j ∧ ren β v = some v'
  | _, _ => False
theorem renEs_cons {x : MapEntry} {l l' : List MapEntry} (h : renEs β (x :: l) = some l') (hk : ground x.key = true) : ∃ v' r, l' = ⟨x.key, v', x.born⟩ :: r ∧ ren β x.val = some v' ∧ renEs β l = some r := by
  simp only [renEs, renE, ren_ground hk, Option.bind_some, Option.bind_eq_some_iff, Option.map_eq_some_iff] at h
  obtain ⟨e, ⟨v, h1, rfl⟩, r, h2, rfl⟩ := h
  exact ⟨v, r, rfl, h1, h2⟩
theorem findNow_ren {d : TypeDesc} {k : Value} : ∀ {es es' : List MapEntry} (i : Nat), renEs β es = some es' → (es.all fun e => ground e.key) = true →
    match Instr.findNow d k es i, Instr.findNow d k es' i with
    | none, none => True
    | some r, some r' => FR β r r'
    | _, _ => False
  | [], es', i, h, _ => by
    simp only [renEs, Option.some.injEq] at h
    subst h
    trivial
  | x :: es, es', i, h, hk => by
    simp only [List.all_cons, Bool.and_eq_true] at hk
    obtain ⟨v', r, rfl, h1, h2⟩ := renEs_cons h hk.1
    simp only [Instr.findNow]
    cases Instr.sameNow d k x.key with
    | none => trivial
    | some b =>
      cases b with
      | true => exact ⟨rfl, h1⟩
      | false => exact findNow_ren (i + 1) h2 hk.2
theorem findAsking_ren {kt : TypeId} {k : Value} (w : World) : ∀ {es es' : List MapEntry} (i : Nat) {r : Option (Nat × Value)}, renEs β es = some es' → (es.all fun e => ground e.key) = true → pureRun P (Instr.findAsking kt k es i) = some r →
    ∃ r', (Instr.findAsking kt k es' i).run P w = .ok r' w ∧ FR β r r'
  | [], es', i, r, h, _, hr => by
    simp only [renEs, Option.some.injEq] at h
    subst h
    cases hr
    exact ⟨none, rfl, trivial⟩
  | x :: es, es', i, r, h, hk, hr => by
    simp only [List.all_cons, Bool.and_eq_true] at hk
    obtain ⟨v', l, rfl, h1, h2⟩ := renEs_cons h hk.1
    simp only [Instr.findAsking, pureRun_bind, Option.bind_eq_some_iff] at hr
    obtain ⟨b, hb, hr⟩ := hr
    simp only [Instr.findAsking, Sem.run_bind, pureRun_sound hb, Result.andThen_ok]
    cases b with
    | true =>
      simp only [if_true] at hr ⊢
      cases hr
      exact ⟨_, rfl, rfl, h1⟩
    | false =>
      simp only [Bool.false_eq_true, if_false] at hr ⊢
      exact findAsking_ren w (i + 1) h2 hk.2 hr
theorem pureRun_under {t : TypeId} {d : TypeDesc} (h : pureRun P (underlying t) = some d) : P.underlying t = some d := by
  have := pureRun_sound h default
  simp only [underlying, Sem.run_bind, run_program, Result.andThen_ok] at this
  split at this
  · rename_i d' hd
    simp only [Sem.run_pure, Result.ok.injEq, and_true] at this
    rw [hd, this]
  · cases this
theorem findKey_ren {kt : TypeId} {k : Value} {es es' : List MapEntry} {r : Option (Nat × Value)} (w : World) (h : renEs β es = some es') (hk : (es.all fun e => ground e.key) = true) (hr : pureRun P (Instr.findKey kt k es) = some r) :
    ∃ r', (Instr.findKey kt k es').run P w = .ok r' w ∧ FR β r r' := by
  simp only [Instr.findKey, pureRun_bind, Option.bind_eq_some_iff] at hr
  obtain ⟨d, hd, hr⟩ := hr
  have hu := pureRun_under hd
  have hN := findNow_ren (d := d) (k := k) 0 h hk
  simp only [Instr.findKey, Sem.run_bind, run_under hu, Result.andThen_ok]
  cases e1 : Instr.findNow d k es 0 with
  | none =>
    rw [e1] at hN hr
    cases e2 : Instr.findNow d k es' 0 with
    | none => exact findAsking_ren w 0 h hk hr
    | some y => rw [e2] at hN; cases hN
  | some x =>
    rw [e1] at hN hr
    cases hr
    cases e2 : Instr.findNow d k es' 0 with
    | none => rw [e2] at hN; cases hN
    | some y => rw [e2] at hN; exact ⟨y, rfl, hN⟩
theorem renEs_length : ∀ {l l' : List MapEntry}, renEs β l = some l' → l'.length = l.length
  | [], l', h => by simp only [renEs, Option.some.injEq] at h; subst h; rfl
  | x :: l, l', h => by
    simp only [renEs, Option.bind_eq_some_iff, Option.map_eq_some_iff] at h
    obtain ⟨e, _, r, h2, rfl⟩ := h
    simp [renEs_length h2]
theorem renEs_get : ∀ {l l' : List MapEntry} {i : Nat} {x : MapEntry}, renEs β l = some l' → l[i]? = some x → ∃ x', l'[i]? = some x' ∧ renE β x = some x'
  | [], l', i, x, h, e => by simp at e
  | y :: l, l', i, x, h, e => by
    simp only [renEs, Option.bind_eq_some_iff, Option.map_eq_some_iff] at h
    obtain ⟨z, h1, r, h2, rfl⟩ := h
    cases i with
    | zero => simp only [List.getElem?_cons_zero, Option.some.injEq] at e; subst e; exact ⟨z, rfl, h1⟩
    | succ i => simp only [List.getElem?_cons_succ] at e ⊢; exact renEs_get h2 e
theorem renEs_set {x x' : MapEntry} (hx : renE β x = some x') : ∀ {l l' : List MapEntry} (i : Nat), renEs β l = some l' → renEs β (l.set i x) = some (l'.set i x')
  | [], l', i, h => by simp only [renEs, Option.some.injEq] at h; subst h; rfl
  | y :: l, l', i, h => by
    simp only [renEs, Option.bind_eq_some_iff, Option.map_eq_some_iff] at h
    obtain ⟨z, h1, r, h2, rfl⟩ := h
    cases i with
    | zero => simp only [List.set_cons_zero, renEs, hx, h2, Option.bind_some, Option.map_some]
    | succ i => simp only [List.set_cons_succ, renEs, h1, renEs_set hx i h2, Option.bind_some, Option.map_some]
theorem renEs_append {m m' : List MapEntry} (hm : renEs β m = some m') : ∀ {l l' : List MapEntry}, renEs β l = some l' → renEs β (l ++ m) = some (l' ++ m')
  | [], l', h => by simp only [renEs, Option.some.injEq] at h; subst h; exact hm
  | y :: l, l', h => by
    simp only [renEs, Option.bind_eq_some_iff, Option.map_eq_some_iff] at h
    obtain ⟨z, h1, r, h2, rfl⟩ := h
    simp only [List.cons_append, renEs, h1, renEs_append hm h2, Option.bind_some, Option.map_some]
theorem renEs_erase : ∀ {l l' : List MapEntry} (i : Nat), renEs β l = some l' → renEs β (l.eraseIdx i) = some (l'.eraseIdx i)
  | [], l', i, h => by simp only [renEs, Option.some.injEq] at h; subst h; rfl
  | y :: l, l', i, h => by
    have h0 := h
    simp only [renEs, Option.bind_eq_some_iff, Option.map_eq_some_iff] at h
    obtain ⟨z, h1, r, h2, rfl⟩ := h
    cases i with
    | zero => exact h2
    | succ i => simp only [List.eraseIdx_cons_succ, renEs, h1, renEs_erase i h2, Option.bind_some, Option.map_some]
theorem ren_map_inv {r : Nat} {x' : Value} (h : ren β (.map (some r)) = some x') : ∃ p, β r = some p ∧ x' = .map (some p.1) := by
  simp only [ren, Option.map_eq_some_iff] at h
  obtain ⟨p, h1, h2⟩ := h
  exact ⟨p, h1, h2.symm⟩
theorem run_getObj_map {b : Nat} {es : Array MapEntry} {clock : Nat} (h : w.heap[b]? = some (.map es clock)) : (getObj b).run P w = .ok (.map es clock) w := by
  simp [getObj, Sem.run, h]
theorem run_setObj_map {b : Nat} {es : Array MapEntry} {clock : Nat} (o : Obj) (h : w.heap[b]? = some (.map es clock)) : (setObj b o).run P w = .ok () (World.withBlock w b o) := by
  simp [setObj, Sem.run, h, World.withBlock]
theorem mlookup_sound {t : TypeId} {x k v x' k' : Value} {ok : Bool} (h : mlookup P t x k ok s = some v) (hx : ren β x = some x') (hk : ren β k = some k') (hR : Rel P β s w) : ∃ v', ren β v = some v' ∧ (Instr.lookup t x' k' ok).run P w = .ok v' w := by
  unfold mlookup at h
  split at h
  · rename_i kt et hu
    simp only [Option.bind_eq_some_iff] at h
    obtain ⟨es, hes, r, hfind, h⟩ := h
    unfold mfind at hfind
    obtain ⟨hg, hfind⟩ := bif_none hfind
    obtain ⟨hgk, hgs⟩ := andb hg
    rw [ren_ground hgk] at hk
    cases hk
    split at hfind
    · rename_i u hck
      have hent : ∃ es', renEs β es = some es' ∧ ((x' = .map none ∧ es' = []) ∨ ∃ b clock, x' = .map (some b) ∧ w.heap[b]? = some (.map ⟨es'⟩ clock)) := by
        unfold mentries at hes
        split at hes
        · cases hes
          simp only [ren, Option.some.injEq] at hx
          exact ⟨[], rfl, .inl ⟨hx.symm, rfl⟩⟩
        · rename_i r
          split at hes
          · rename_i es0 clock hget
            cases hes
            obtain ⟨p, h1, rfl⟩ := ren_map_inv hx
            obtain ⟨b, K, es', e1, e2, e3⟩ := hR.fits _ _ hget
            rw [h1] at e1
            cases e1
            exact ⟨es', e2, .inr ⟨b, clock, rfl, e3⟩⟩
          · cases hes
        · cases hes
      obtain ⟨es', hes', hcase⟩ := hent
      obtain ⟨r', hr', hFR⟩ := findKey_ren w hes' hgs hfind
      have hemp : (⟨es'⟩ : Array MapEntry).isEmpty = es.isEmpty := by
        have := renEs_length hes'
        cases es <;> cases es' <;> simp_all [Array.isEmpty]
      have hck' := pureRun_sound hck w
      have goal : (Instr.lookup t x' k ok).run P w = ((match r' with
          | some (_, v) => (pure (v, true) : Sem (Value × Bool))
          | none => do pure (← zeroValue et, false)).run P w).andThen fun q w => .ok (if ok then .tuple #[q.1, .bool q.2] else q.1) w := by
        rcases hcase with ⟨rfl, rfl⟩ | ⟨b, clock, rfl, hb⟩
        · simp only [Instr.lookup, Sem.run_bind, run_under hu, Result.andThen_ok, Sem.run_pure]
          rw [show (#[] : Array MapEntry) = ⟨[]⟩ from rfl, hemp, hck']
          simp only [Result.andThen_ok, hr', Sem.run_bind]
          cases r' with
          | none =>
            simp only [Sem.run_bind]
            cases (zeroValue et).run P w <;> rfl
          | some q => rfl
        · simp only [Instr.lookup, Sem.run_bind, run_under hu, Result.andThen_ok, run_getObj_map hb, Sem.run_pure]
          rw [hemp, hck']
          simp only [Result.andThen_ok, hr', Sem.run_bind]
          cases r' with
          | none =>
            simp only [Sem.run_bind]
            cases (zeroValue et).run P w <;> rfl
          | some q => rfl
      rw [goal]
      cases r with
      | none =>
        cases r' with
        | some q => cases hFR
        | none =>
          simp only [Option.map_eq_some_iff] at h
          obtain ⟨z, hz, h⟩ := h
          obtain ⟨it, _, _, hgz, hzr⟩ := mzero_sound hz w
          simp only [Sem.run_bind, hzr, Result.andThen_ok, Sem.run_pure]
          refine ⟨_, ?_, rfl⟩
          subst h
          cases ok
          · exact ren_ground hgz
          · simp [ren, renA, renL, ren_ground hgz]
      | some q =>
        obtain ⟨i, v0⟩ := q
        cases r' with
        | none => cases hFR
        | some q' =>
          obtain ⟨i', v0'⟩ := q'
          obtain ⟨rfl, hv⟩ := hFR
          simp only [Option.some.injEq] at h
          simp only [Sem.run_pure, Result.andThen_ok]
          refine ⟨_, ?_, rfl⟩
          subst h
          cases ok
          · exact hv
          · simp [ren, renA, renL, hv]
    · cases hfind
  · cases h
theorem step_map {r : Nat} {es es1 : List MapEntry} {es1' : List MapEntry} {clock clock1 : Nat} {p : Nat × Nat} (hR : Rel P β s w) (hget : s.h.get r = some (.map es clock)) (h1 : β r = some p) (hb : p.1 < w.heap.size) (he : renEs β es1 = some es1') :
    Step P β β s ⟨s.h.set r (some (.map es1 clock1)), s.c⟩ w (World.withBlock w p.1 (.map ⟨es1'⟩ clock1)) :=
  step_put hR hget h1 (fun k hk => withBlock_ne _ hk) (withBlock_size _ _ _) rfl rfl rfl ⟨p.1, p.2, es1', h1, he, withBlock_get _ hb⟩
theorem mupdate_sound {t : TypeId} {x k v x' k' v' : Value} {s' : St} (h : mupdate P t x k v s = some s') (hx : ren β x = some x') (hk : ren β k = some k') (hv : ren β v = some v') (hR : Rel P β s w) :
    ∃ w', (Instr.mapUpdate t x' k' v').run P w = .ok () w' ∧ Step P β β s s' w w' := by
  unfold mupdate at h
  split at h
  · rename_i kt et r hu
    split at h
    · rename_i es clock hget
      obtain ⟨p, h1, rfl⟩ := ren_map_inv hx
      obtain ⟨b, K, es', e1, e2, e3⟩ := hR.fits _ _ hget
      rw [h1] at e1
      cases e1
      have hb := (Array.getElem?_eq_some_iff.1 e3).1
      obtain ⟨hg, h⟩ := bif_none h
      obtain ⟨hgk, hgs⟩ := andb hg
      rw [ren_ground hgk] at hk
      cases hk
      split at h
      · rename_i u i v0 hck hfind
        split at h
        · rename_i e hei
          obtain ⟨hsb, h⟩ := bif_none h
          cases h
          obtain ⟨r', hr', hFR⟩ := findKey_ren w e2 hgs hfind
          have hge : ground e.key = true := by
            have := List.all_eq_true.1 hgs e (List.mem_of_getElem? hei)
            exact this
          obtain ⟨x1, hx1, hx2⟩ := renEs_get e2 hei
          have hx3 : x1.key = e.key ∧ x1.born = e.born := by
            simp only [renE, ren_ground hge, Option.bind_some, Option.map_eq_some_iff] at hx2
            obtain ⟨v2, _, rfl⟩ := hx2
            exact ⟨rfl, rfl⟩
          cases r' with
          | none => cases hFR
          | some q =>
            obtain ⟨i', v0'⟩ := q
            obtain ⟨rfl, _⟩ := hFR
            have hset := renEs_set (x := { key := k, val := v, born := e.born }) (x' := { key := k, val := v', born := e.born }) (by simp [renE, ren_ground hgk, hv]) i e2
            refine ⟨_, ?_, step_map hR hget h1 hb hset⟩
            have hx1' : (⟨es'⟩ : Array MapEntry)[i]? = some x1 := by simpa using hx1
            have hkey : (Instr.keyThatStays e.key k).run P w = .ok k w := by simp [Instr.keyThatStays, hsb]
            simp only [Instr.mapUpdate, Sem.run_bind, run_under hu, Result.andThen_ok, run_getObj_map e3, pureRun_sound hck, hr', hx1', Option.map_some, Option.getD_some, hx3.1, hkey]
            rw [run_setObj_map _ e3]
            congr 3
            apply Array.ext_getElem?
            intro j
            simp only [Array.getElem?_modify, List.getElem?_toArray, List.getElem?_set]
            by_cases hj : i = j
            · subst hj
              obtain ⟨hlt, hx1e⟩ := List.getElem?_eq_some_iff.1 hx1
              simp [hlt, hx1e, hx3.2]
            · simp [hj]
        · cases h
      · rename_i u hck hfind
        cases h
        obtain ⟨r', hr', hFR⟩ := findKey_ren w e2 hgs hfind
        cases r' with
        | some q => cases hFR
        | none =>
          have happ := renEs_append (m := [{ key := k, val := v, born := clock }]) (m' := [{ key := k, val := v', born := clock }]) (by simp [renEs, renE, ren_ground hgk, hv]) e2
          refine ⟨_, ?_, step_map hR hget h1 hb happ⟩
          simp only [Instr.mapUpdate, Sem.run_bind, run_under hu, Result.andThen_ok, run_getObj_map e3, pureRun_sound hck, hr']
          rw [run_setObj_map _ e3]
          congr 3
          simp
      · cases h
    · cases h
  · cases h
theorem mdelete_sound {t u : TypeId} {x k x' k' : Value} {s' : St} (h : mdelete P t x k s = some s') (hx : ren β x = some x') (hk : ren β k = some k') (hR : Rel P β s w) {ats : Array TypeId} (ha : ats[0]? = some t) :
    ∃ w', (Builtin.delete_ ats u #[x', k']).run P w = .ok (.tuple #[]) w' ∧ Step P β β s s' w w' := by
  unfold mdelete at h
  split at h
  · rename_i kt et r hu
    split at h
    · rename_i es clock hget
      obtain ⟨p, h1, rfl⟩ := ren_map_inv hx
      obtain ⟨b, K, es', e1, e2, e3⟩ := hR.fits _ _ hget
      rw [h1] at e1
      cases e1
      have hb := (Array.getElem?_eq_some_iff.1 e3).1
      have hemp : (⟨es'⟩ : Array MapEntry).isEmpty = es.isEmpty := by
        have := renEs_length e2
        cases es <;> cases es' <;> simp_all [Array.isEmpty]
      have hshape : ∀ r', (mfind P kt k es = some r') → ground k = true ∧ (es.all fun e => ground e.key) = true ∧ ∃ u, pureRun P (Instr.checkKey es.isEmpty 10000 kt k) = some u ∧ pureRun P (Instr.findKey kt k es) = some r' := by
        intro r' hf
        unfold mfind at hf
        obtain ⟨hg, hf⟩ := bif_none hf
        obtain ⟨hgk, hgs⟩ := andb hg
        split at hf
        · rename_i u hck
          exact ⟨hgk, hgs, u, hck, hf⟩
        · cases hf
      split at h
      · rename_i i v0 hfind
        cases h
        obtain ⟨hgk, hgs, u', hck, hf⟩ := hshape _ hfind
        rw [ren_ground hgk] at hk
        cases hk
        obtain ⟨r', hr', hFR⟩ := findKey_ren w e2 hgs hf
        cases r' with
        | none => cases hFR
        | some q =>
          obtain ⟨i', v0'⟩ := q
          obtain ⟨rfl, _⟩ := hFR
          refine ⟨_, ?_, step_map hR hget h1 hb (renEs_erase i e2)⟩
          simp only [Builtin.delete_, ha, Sem.run_bind, run_under hu, Result.andThen_ok, run_getObj_map e3, hemp, pureRun_sound hck, hr', List.getElem?_toArray, List.getElem?_cons_zero, List.getElem?_cons_succ]
          rw [run_setObj_map _ e3]
          simp only [Result.andThen_ok, Sem.run_pure]
          congr 3
          simp
      · rename_i hfind
        cases h
        obtain ⟨hgk, hgs, u', hck, hf⟩ := hshape _ hfind
        rw [ren_ground hgk] at hk
        cases hk
        obtain ⟨r', hr', hFR⟩ := findKey_ren w e2 hgs hf
        cases r' with
        | some q => cases hFR
        | none =>
          refine ⟨w, ?_, step_refl hR⟩
          simp only [Builtin.delete_, ha, Sem.run_bind, run_under hu, Result.andThen_ok, run_getObj_map e3, hemp, pureRun_sound hck, hr', List.getElem?_toArray, List.getElem?_cons_zero, List.getElem?_cons_succ]
          rw [run_setObj_map _ e3, withBlock_self e3]
          simp only [Result.andThen_ok, Sem.run_pure]
      · cases h
    · cases h
  · cases h
end
end Go.Am
