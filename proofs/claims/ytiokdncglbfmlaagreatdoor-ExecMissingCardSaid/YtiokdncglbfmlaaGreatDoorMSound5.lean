/- Append, copy. -/
import Derived.Test.YtiokdncglbfmlaaGreatDoorMSound4
import Derived.Laws.AppendOwn
namespace Go.Am
open Go
section
variable {P : Program} {β : Beta} {s : St} {w : World}
theorem take_prefix {l' : List Value} {c : Array Value} {o n : Nat} (hp : l' <+: c.toList) (h : o + n ≤ l'.length) : c.extract o (o + n) = ⟨(l'.drop o).take n⟩ := by
  obtain ⟨r, hr⟩ := hp
  apply Array.ext'
  simp only [Array.toList_extract, List.extract_eq_take_drop, ← hr]
  rw [List.drop_append_of_le_length (by omega), List.take_append_of_le_length (by simp; omega)]
  congr 1
  omega
theorem mcells_sound {size n : Nat} {x x' : Value} {l : List Value} (h : mcells s size n x = some l) (hx : ren β x = some x') (hR : Rel P β s w) : ∃ l', renL β l = some l' ∧ l'.length = l.length ∧ (Builtin.firstCells size n x').run P w = .ok ⟨l'⟩ w := by
  have key : ∀ l', renL β l = some l' → (Builtin.firstCells size n x').run P w = .ok ⟨l'⟩ w → ∃ l', renL β l = some l' ∧ l'.length = l.length ∧ (Builtin.firstCells size n x').run P w = .ok ⟨l'⟩ w :=
    fun l' h1 h2 => ⟨l', h1, renL_length h1, h2⟩
  unfold mcells at h
  split at h
  · rename_i b o m c
    split at h
    · rename_i l0 e hget
      obtain ⟨hn, h⟩ := bif_none h
      cases h
      have hn := beq_eq hn
      obtain ⟨p, c', h1, h2, rfl⟩ := ren_slice_inv hx
      obtain ⟨bb, K, cc, lo, hi, e1, e2, e3, e4, l0', e5, e6⟩ := hR.fits _ _ hget
      rw [h1] at e1
      cases e1
      refine key _ (renL_take _ (renL_drop _ e5)) ?_
      have hl := renL_length e5
      have hpl := e6.length_le
      simp only [Array.length_toList] at hpl
      simp only [List.length_take, List.length_drop] at hn
      by_cases h0 : n * size = 0
      · rw [h0]
        simp [Builtin.firstCells, h0, loadCells, loadCellsFrom]
      · simp only [Builtin.firstCells]
        rw [run_loadCells_at e2 o _ (by omega), take_prefix e6 (by omega)]
    · cases h
  · cases h
    simp only [ren, Option.some.injEq] at hx
    subst hx
    exact key [] rfl rfl
  · rename_i str
    obtain ⟨hn, h⟩ := bif_none h
    cases h
    simp only [ren, Option.some.injEq] at hx
    subst hx
    have hn := ble_le hn
    refine key _ (renL_ground ?_) ?_
    · have : ∀ L : List UInt8, groundL (L.map fun b => Value.int .u8 b.toNat) = true := by
        intro L
        induction L with
        | nil => rfl
        | cons b L ih => simp only [List.map_cons, groundL, ground, ih, Bool.and_self]
      exact this _
    · simp only [Builtin.firstCells, Sem.run_pure]
      congr 1
      apply Array.ext'
      have : (str.extract 0 n).data.toList = str.data.toList.take n := by
        rw [ByteArray.data_extract]
        simp
      rw [Array.toList_map, this]
  · cases h
theorem mlen_sound {y y' : Value} {k : Nat} (h : mlen y = some k) (hy : ren β y = some y') (w : World) : (Builtin.lenOf y').run P w = .ok k w := by
  unfold mlen at h
  split at h
  · rename_i a n c
    cases h
    rcases a with _ | ⟨b, o, _ | sp⟩
    · simp only [ren, Option.some.injEq] at hy; subst hy; rfl
    · obtain ⟨p, c', _, _, rfl⟩ := ren_slice_inv hy; rfl
    · cases hy
  · cases h
    simp only [ren, Option.some.injEq] at hy; subst hy; rfl
  · cases h
theorem step_drop {i : Nat} (hR : Rel P β s w) : Step P β β s ⟨s.h.set i none, s.c⟩ w w where
  ext := Beta.le_refl β
  new := fun i p h1 h2 => by rw [h1] at h2; cases h2
  cle := Nat.le_refl _
  rel := by
    have : ∀ j o, (s.h.set i none).get j = some o → s.h.get j = some o := by
      intro j o hj
      rw [PMap.get_set] at hj
      split at hj
      · cases hj
      · exact hj
    exact ⟨fun j o hj => hR.fits j o (this j o hj), fun a b oa ob pa pb ha hb => hR.inj a b oa ob pa pb (this a oa ha) (this b ob hb)⟩
  size := Nat.le_refl _
  os := rfl
  tape := rfl
  output := rfl
  frame := fun _ _ _ => rfl
  old := fun j o hj => by
    simp only [PMap.get_set] at hj
    split at hj
    · cases hj
    · obtain ⟨p, hp, _⟩ := fits_beta (hR.fits j o hj)
      exact ⟨p, hp, .inr ⟨j, o, p, hj, hp, rfl⟩⟩
/-- A block is grown in place: another name for it, the old one dropped. -/
theorem step_move {i : Nat} {l new l' new' : List Value} {e : TypeId} {b K : Nat} {c : Array Value} {lo hi : Nat} (hR : Rel P β s w) (hf : β s.c = none) (hl : s.h.get i = some (.cells l e)) (h1 : β i = some (b, K)) (h2 : w.heap[b]? = some (.cells c e (lo, hi)))
    (h3 : c.size = K * sz P e) (h4 : ∀ o, o < c.size → ¬ (lo ≤ o ∧ o < hi)) (h5 : renL β l = some l') (h6 : l' <+: c.toList) (h7 : renL β new = some new') (h8 : l'.length + new'.length ≤ c.size) :
    Step P β (β.put s.c (b, K)) s (mnew e (l ++ new) ⟨s.h.set i none, s.c⟩) w (World.withBlock w b (.cells (spl c l'.length new') e (lo, hi))) := by
  have hb := (Array.getElem?_eq_some_iff.1 h2).1
  have hle := beta_put_le hf (b, K)
  have hne : ∀ j o, s.h.get j = some o → j ≠ s.c := fun j o hj hc => by
    obtain ⟨p, hp, _⟩ := fits_beta (hR.fits j o hj)
    rw [hc, hf] at hp; cases hp
  have hget : ∀ j o, (mnew e (l ++ new) ⟨s.h.set i none, s.c⟩).h.get j = some o → (j = s.c ∧ o = .cells (l ++ new) e) ∨ (j ≠ s.c ∧ j ≠ i ∧ s.h.get j = some o) := by
    intro j o hj
    simp only [mnew, St.new, PMap.get_set] at hj
    by_cases hc : j = s.c
    · rw [if_pos hc] at hj; cases hj; exact .inl ⟨hc, rfl⟩
    · rw [if_neg hc] at hj
      by_cases hi : j = i
      · rw [if_pos hi] at hj; cases hj
      · rw [if_neg hi] at hj; exact .inr ⟨hc, hi, hj⟩
  refine ⟨hle, ?_, by simp [mnew, St.new], ⟨?_, ?_⟩, by rw [withBlock_size]; exact Nat.le_refl _, rfl, rfl, rfl, ?_, ?_⟩
  · intro j p hj1 hj2
    by_cases hc : j = s.c
    · subst hc; simp [mnew, St.new]
    · rw [beta_put_ne β _ hc, hj1] at hj2; cases hj2
  · intro j o hj
    rcases hget j o hj with ⟨rfl, rfl⟩ | ⟨hc, hi', hj'⟩
    · refine ⟨b, K, _, lo, hi, beta_put_eq _ _ _, withBlock_get _ hb, ?_, ?_, l' ++ new', renL_append (renL_mono hle h5) (renL_mono hle h7), ?_⟩
      · rw [size_spl h8]; exact h3
      · rw [size_spl h8]; exact h4
      · obtain ⟨r, hr⟩ := h6
        refine ⟨c.toList.drop (l'.length + new'.length), ?_⟩
        simp only [spl]
        congr 1
        rw [← hr]
        simp
    · refine fits_mono (hR.fits j o hj') hle fun p hp => withBlock_ne _ ?_
      intro hpb
      exact hi' (hR.inj j i o _ p _ hj' hl hp h1 hpb)
  · intro j k oj ok bj bk hj hk e1 e2 e3
    rcases hget j oj hj with ⟨rfl, rfl⟩ | ⟨hc, hi', hj'⟩ <;> rcases hget k ok hk with ⟨rfl, rfl⟩ | ⟨hc2, hi2, hk'⟩
    · rfl
    · exfalso
      rw [beta_put_eq] at e1
      rw [beta_put_ne β _ hc2] at e2
      cases e1
      exact hi2 (hR.inj k i ok _ bk _ hk' hl e2 h1 e3.symm)
    · exfalso
      rw [beta_put_eq] at e2
      rw [beta_put_ne β _ hc] at e1
      cases e2
      exact hi' (hR.inj j i oj _ bj _ hj' hl e1 h1 e3)
    · rw [beta_put_ne β _ hc] at e1
      rw [beta_put_ne β _ hc2] at e2
      exact hR.inj j k oj ok bj bk hj' hk' e1 e2 e3
  · intro k _ hk
    exact withBlock_ne _ fun hkb => hk i _ _ hl h1 hkb.symm
  · intro j o hj
    rcases hget j o hj with ⟨rfl, rfl⟩ | ⟨hc, hi', hj'⟩
    · exact ⟨_, beta_put_eq _ _ _, .inr ⟨i, _, _, hl, h1, rfl⟩⟩
    · obtain ⟨p, hp, _⟩ := fits_beta (hR.fits j o hj')
      exact ⟨p, by rw [beta_put_ne β _ hc]; exact hp, .inr ⟨j, o, p, hj', hp, rfl⟩⟩
theorem rel_drew (hR : Rel P β s w) : Rel P β s w.drew := (step_drew (w' := w.drew) hR rfl rfl rfl rfl).rel
theorem run_grow {t t' ty e : TypeId} {d : TypeDesc} {ie : TypeInfo} {z : Value} {a : Option Addr} {n c k : Nat} {y : Value} {old new : List Value} (hu : P.underlying t = some (.slice e)) (hu' : P.underlying t' = some d) (hd : isIntD d = false)
    (hi : P.info? e = some ie) (hz : ∀ w, (zeroValue e).run P w = .ok z w) (hk : ∀ w, (Builtin.lenOf y).run P w = .ok k w) (hc : c < n + k) (hb : (n + k) * ie.bytes ≤ 140737488355328) (hn : n + k ≤ 140737488355328)
    (ho : (Builtin.firstCells ie.size n (.slice a n c)).run P w.drew = .ok ⟨old⟩ w.drew) (hy : (Builtin.firstCells ie.size k y).run P w.drew = .ok ⟨new⟩ w.drew) :
    (Builtin.append_ #[t, t'] ty #[.slice a n c, y]).run P w = .ok (.slice (some ⟨w.heap.size, 0, none⟩) (n + k) (grownCap w (n + k) c e)) (w.drew.alloc (.cells ((⟨old⟩ : Array Value) ++ ⟨new⟩ ++ Builtin.zeroCells z.cells (grownCap w (n + k) c e - (n + k))) e)) := by
  have hfit := growslice_fits hc hb
  have h2 : (2 : Nat) ^ 48 = 281474976710656 := by decide
  have hmax : ¬ (((n + k : Nat) : Int) > IntKind.i64.max ∧ ((false = true) ∨ ie.bytes = 0)) := by
    rintro ⟨h, _⟩
    have : IntKind.i64.max = 9223372036854775807 := by decide
    omega
  have hq : (Question.appendCap (n + k) c e).forced = false := rfl
  unfold Builtin.append_
  simp only [List.getElem?_toArray, List.getElem?_cons_zero, List.getElem?_cons_succ, Sem.run_bind, run_under hu, Result.andThen_ok, run_size hi, run_under hu', Sem.run_pure]
  cases d with
  | int k => cases hd
  | _ =>
    simp only [Bool.false_eq_true, if_false, hk, Result.andThen_ok, Sem.run_bind]
    rw [if_neg (by omega)]
    simp only [run_info hi, Result.andThen_ok, Sem.run_bind, Bool.not_false, if_true]
    rw [if_neg (by rintro ⟨h, _⟩; have : IntKind.i64.max = 9223372036854775807 := by decide
                   omega), h2]
    simp only [Sem.run_bind, run_info hi, Result.andThen_ok]
    rw [if_neg (by omega)]
    simp only [run_choose, hq, run_info hi, Bool.false_eq_true, if_false, Sem.run_bind, Result.andThen_ok, World.drew_eq, run_askRoom]
    rw [show (Question.appendCap (n + k) c e).cut (w.tape w.drawn (.appendCap (n + k) c e)) = grownCap w (n + k) c e from rfl, ho]
    simp only [Result.andThen_ok, hy, hz, newRow, Sem.run_bind, run_newObj, Sem.run_pure, World.alloc_eq]
    rfl
theorem run_into {t t' ty e : TypeId} {d : TypeDesc} {ie : TypeInfo} {b o n c k : Nat} {y : Value} {new : List Value} {w' : World} (hu : P.underlying t = some (.slice e)) (hu' : P.underlying t' = some d) (hd : isIntD d = false)
    (hi : P.info? e = some ie) (hk : ∀ w, (Builtin.lenOf y).run P w = .ok k w) (hc : n + k ≤ c)
    (hy : (Builtin.firstCells ie.size k y).run P w = .ok ⟨new⟩ w) (hst : (storeCells ⟨b, o + n * ie.size, none⟩ new).run P w = .ok () w') :
    (Builtin.append_ #[t, t'] ty #[.slice (some ⟨b, o, none⟩) n c, y]).run P w = .ok (.slice (some ⟨b, o, none⟩) (n + k) c) w' := by
  unfold Builtin.append_
  simp only [List.getElem?_toArray, List.getElem?_cons_zero, List.getElem?_cons_succ, Sem.run_bind, run_under hu, Result.andThen_ok, run_size hi, run_under hu', Sem.run_pure]
  cases d with
  | int k => cases hd
  | _ =>
    simp only [Bool.false_eq_true, if_false, hk, Result.andThen_ok, Sem.run_bind]
    rw [if_pos hc]
    simp only [Bool.not_false, if_true, Sem.run_bind, hy, Result.andThen_ok, addr_add, hst, Sem.run_pure]
theorem run_into_nil {t t' ty e : TypeId} {d : TypeDesc} {ie : TypeInfo} {n c k : Nat} {y : Value} {new : List Value} (hu : P.underlying t = some (.slice e)) (hu' : P.underlying t' = some d) (hd : isIntD d = false)
    (hi : P.info? e = some ie) (hk : ∀ w, (Builtin.lenOf y).run P w = .ok k w) (hc : n + k ≤ c)
    (hy : (Builtin.firstCells ie.size k y).run P w = .ok ⟨new⟩ w) :
    (Builtin.append_ #[t, t'] ty #[.slice none n c, y]).run P w = .ok (.slice none (n + k) c) w := by
  unfold Builtin.append_
  simp only [List.getElem?_toArray, List.getElem?_cons_zero, List.getElem?_cons_succ, Sem.run_bind, run_under hu, Result.andThen_ok, run_size hi, run_under hu', Sem.run_pure]
  cases d with
  | int k => cases hd
  | _ =>
    simp only [Bool.false_eq_true, if_false, hk, Result.andThen_ok, Sem.run_bind]
    rw [if_pos hc]
    simp only [Bool.not_false, if_true, Sem.run_bind, hy, Result.andThen_ok, Sem.run_pure]
theorem mgrow_sound {e : TypeId} {size : Nat} {cells : List Value} {n c : Nat} {v : Value} {s' : St} (h : mgrow P e size cells n s = some (v, s')) {old new : List Value} (hl : renL β cells = some (old ++ new)) (hlen : cells.length = n * size) {ie : TypeInfo} (hi : P.info? e = some ie) (hs : ie.size = size)
    (hR : Rel P β s w) (hf : Fresh β s.c s'.c) :
    ∃ z, (∀ w, (zeroValue e).run P w = .ok z w) ∧ ∃ β', ren β' v = some (.slice (some ⟨w.heap.size, 0, none⟩) n (grownCap w n c e)) ∧ Step P β β' s s' w (w.drew.alloc (.cells ((⟨old⟩ : Array Value) ++ ⟨new⟩ ++ Builtin.zeroCells z.cells (grownCap w n c e - n)) e)) := by
  unfold mgrow at h
  obtain ⟨hz, h⟩ := bif_none h
  cases h
  unfold zeroOk at hz
  split at hz
  · rename_i z hz'
    have hz := beq_eq hz
    obtain ⟨it, h1, h2, h3, h4⟩ := mzero_sound hz' w
    refine ⟨z, fun w => run_zero h1 h2 w, ?_⟩
    have hge := grownCap_ge w n c e
    have hfc : β s.c = none := hf s.c (Nat.le_refl _) (by simp [mnew, St.new])
    have hls := renL_length hl
    have hst0 := step_drew (w' := w.drew) hR rfl rfl rfl rfl
    have hzs : z.cells.size = size := hz
    have hst := cells_new (K := grownCap w n c e) (junk := (Builtin.zeroCells z.cells (grownCap w n c e - n)).toList) (e := e) (rel_drew hR) hl hfc (by
      rw [List.length_append, hls, hlen]
      have : (Builtin.zeroCells z.cells (grownCap w n c e - n)).toList.length = (grownCap w n c e - n) * size := by
        simp [Builtin.zeroCells, hzs]
      rw [this, sz, hi]
      simp only [hs]
      rw [← Nat.add_mul]
      congr 1
      omega)
    have he : (⟨old ++ new ++ (Builtin.zeroCells z.cells (grownCap w n c e - n)).toList⟩ : Array Value) = ((⟨old⟩ : Array Value) ++ ⟨new⟩ ++ Builtin.zeroCells z.cells (grownCap w n c e - n)) := by
      apply Array.ext'; simp
    rw [he] at hst
    refine ⟨_, ?_, step_trans hst0 hst⟩
    have hcap : renCap (grownCap w n c e) n capInf = some (grownCap w n c e) := by
      unfold renCap
      rw [show capHalf.ble capInf = true by decide, cond_true]
      rw [Nat.sub_self, Nat.zero_add, Nat.ble_eq_true_of_le hge, cond_true, Nat.sub_zero]
    exact ren_slice (beta_put_eq _ _ _) hcap 0
  · cases hz
theorem minto_sound {b o size n k c : Nat} {l new : List Value} {be : TypeId} {v : Value} {s' : St} (h : minto b l be o size n k c new s = some (v, s')) {p : Nat × Nat} {c' : Nat} (hp : β b = some p) (hget : s.h.get b = some (.cells l be)) (hR : Rel P β s w)
    {new' : List Value} (hn : renL β new = some new') (hlen : new.length = k * size) (h1 : new.all oneC = true) (hcap : renCap p.2 (n + k) c = some c') :
    ∃ w', ren β v = some (.slice (some ⟨p.1, o, none⟩) (n + k) c') ∧ (storeCells ⟨p.1, o + n * size, none⟩ new').run P w = .ok () w' ∧ Step P β β s s' w w' := by
  unfold minto at h
  obtain ⟨hle, h⟩ := bif_none h
  cases h
  have hle := ble_le hle
  rw [Nat.add_mul] at hle
  obtain ⟨bb, K, cc, lo, hi, e1, e2, e3, e4, l', e5, e6⟩ := hR.fits _ _ hget
  rw [hp] at e1
  cases e1
  have hln := renL_length hn
  have hll := renL_length e5
  have hpl := e6.length_le
  simp only [Array.length_toList] at hpl
  refine ⟨_, ren_slice hp hcap o, ?_, cells_put (o := o + n * size) hR hget hp e2 e3 e4 e5 e6 hn (by omega)⟩
  have := run_store_at (P := P) (o + n * size) new' 0 cc w e2 e4 (by omega) (one_renL hn h1)
  simpa using this
end
end Go.Am
