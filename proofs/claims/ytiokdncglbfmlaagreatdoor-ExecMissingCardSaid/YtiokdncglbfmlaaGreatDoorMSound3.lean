/- Places in structs, arrays and slices. -/
import Derived.Test.YtiokdncglbfmlaaGreatDoorMSound2
namespace Go.Am
open Go
theorem ren_ptr_inv {β : Beta} {i o : Nat} {a' : Value} (h : ren β (.pointer (some ⟨i, o, none⟩)) = some a') : ∃ p, β i = some p ∧ a' = .pointer (some ⟨p.1, o, none⟩) := by
  simp only [ren, Option.map_eq_some_iff] at h
  obtain ⟨p, h1, h2⟩ := h
  exact ⟨p, h1, h2.symm⟩
theorem ren_ptr {β : Beta} {i : Nat} {p : Nat × Nat} (h : β i = some p) (o : Nat) : ren β (.pointer (some ⟨i, o, none⟩)) = some (.pointer (some ⟨p.1, o, none⟩)) := by
  simp [ren, h]
theorem ren_slice_inv {β : Beta} {i o n c : Nat} {a' : Value} (h : ren β (.slice (some ⟨i, o, none⟩) n c) = some a') : ∃ p c', β i = some p ∧ renCap p.2 n c = some c' ∧ a' = .slice (some ⟨p.1, o, none⟩) n c' := by
  simp only [ren, Option.bind_eq_some_iff, Option.map_eq_some_iff] at h
  obtain ⟨p, h1, c', h2, h3⟩ := h
  exact ⟨p, c', h1, h2, h3.symm⟩
theorem ren_slice {β : Beta} {i : Nat} {p : Nat × Nat} {n c c' : Nat} (h : β i = some p) (hc : renCap p.2 n c = some c') (o : Nat) : ren β (.slice (some ⟨i, o, none⟩) n c) = some (.slice (some ⟨p.1, o, none⟩) n c') := by
  simp [ren, h, hc]
theorem ren_int_inv {β : Beta} {k : IntKind} {i : Int} {a' : Value} (h : ren β (.int k i) = some a') : a' = .int k i := by
  simp only [ren, Option.some.injEq] at h; exact h.symm
theorem ren_agg_inv {β : Beta} {a : Array Value} {a' : Value} (h : ren β (.agg a) = some a') : ∃ b, renL β a.toList = some b.toList ∧ a' = .agg b := by
  simp only [ren, Option.map_eq_some_iff] at h
  obtain ⟨b, h1, h2⟩ := h
  exact ⟨b, renA_iff.1 h1, h2.symm⟩
theorem ren_tuple_inv {β : Beta} {a : Array Value} {a' : Value} (h : ren β (.tuple a) = some a') : ∃ b, renL β a.toList = some b.toList ∧ a' = .tuple b := by
  simp only [ren, Option.map_eq_some_iff] at h
  obtain ⟨b, h1, h2⟩ := h
  exact ⟨b, renA_iff.1 h1, h2.symm⟩
section
variable {P : Program} {β : Beta} {s : St} {w : World}
theorem mfieldAddr_sound {t : TypeId} {a v a' : Value} {f : Nat} (h : mfieldAddr P t a f = some v) (ha : ren β a = some a') (w : World) : ∃ v', ren β v = some v' ∧ (Instr.fieldAt t a' f).run P w = .ok v' w := by
  unfold mfieldAddr at h
  split at h
  · rename_i i o fields hu
    split at h
    · rename_i fd hfd
      split at h
      · rename_i fi hi
        obtain ⟨h0, h⟩ := bif_none' h
        cases h
        obtain ⟨p, h1, rfl⟩ := ren_ptr_inv ha
        refine ⟨_, ren_ptr h1 _, ?_⟩
        have hne : fi.size ≠ 0 := by
          intro e; rw [e] at h0; cases h0
        simp only [Instr.fieldAt, Sem.run_bind, run_under hu, Result.andThen_ok, hfd, Instr.sureAddr, Sem.run_pure, fieldPlace, run_size hi, hne, if_false, addr_add]
      · cases h
    · cases h
  · cases h
theorem mfield_sound {t : TypeId} {a v a' : Value} {f : Nat} (h : mfield P t a f = some v) (ha : ren β a = some a') (w : World) : ∃ v', ren β v = some v' ∧ (Instr.field t a' f).run P w = .ok v' w := by
  unfold mfield at h
  split at h
  · rename_i cs fields hu
    split at h
    · rename_i fd hfd
      obtain ⟨b, h1, rfl⟩ := ren_agg_inv ha
      obtain ⟨v', e1, e2⟩ := mpart_sound (c := b) h h1 (List.prefix_refl _) w
      refine ⟨v', e1, ?_⟩
      simp only [Instr.field, Sem.run_bind, run_under hu, Result.andThen_ok, hfd, asAgg, Sem.run_pure, e2]
    · cases h
  · cases h
theorem mat_parts {e : TypeId} {b o : Nat} {i : Int} {len : Nat} {v : Value} (h : mat P e b o i len = some v) : ∃ ie n, P.info? e = some ie ∧ i = .ofNat n ∧ n < len ∧ v = .pointer (some ⟨b, o + n * ie.size, none⟩) := by
  unfold mat at h
  split at h
  · rename_i ie hi
    split at h
    · rename_i n
      obtain ⟨hn, h⟩ := bif_none h
      cases h
      exact ⟨ie, n, hi, rfl, blt_lt hn, rfl⟩
    · cases h
  · cases h
theorem mindexAddr_sound {t : TypeId} {x ix v x' ix' : Value} (h : mindexAddr P t x ix = some v) (hx : ren β x = some x') (hi : ren β ix = some ix') (w : World) : ∃ v', ren β v = some v' ∧ (Instr.indexAt t x' ix').run P w = .ok v' w := by
  unfold mindexAddr at h
  split at h
  · rename_i len e b o k i hu
    obtain ⟨ie, n, h1, rfl, h2, rfl⟩ := mat_parts h
    obtain ⟨p, h3, rfl⟩ := ren_ptr_inv hx
    cases ren_int_inv hi
    refine ⟨_, ren_ptr h3 _, ?_⟩
    have c1 : (0 : Int) ≤ (n : Int) ∧ (n : Int) < (len : Int) := ⟨by omega, by omega⟩
    simp only [Instr.indexAt, Sem.run_bind, asIntOf, Sem.run_pure, Result.andThen_ok, run_under hu, Instr.sureAddr, c1, and_self, if_true, run_size h1, addr_add, Int.ofNat_eq_natCast, Int.toNat_natCast]
  · rename_i e b o len c k i hu
    obtain ⟨ie, n, h1, rfl, h2, rfl⟩ := mat_parts h
    obtain ⟨p, c', h3, h4, rfl⟩ := ren_slice_inv hx
    cases ren_int_inv hi
    refine ⟨_, ren_ptr h3 _, ?_⟩
    have c1 : (0 : Int) ≤ (n : Int) ∧ (n : Int) < (len : Int) := ⟨by omega, by omega⟩
    simp only [Instr.indexAt, Sem.run_bind, asIntOf, Sem.run_pure, Result.andThen_ok, run_under hu, c1, and_self, if_true, run_size h1, addr_add, Int.ofNat_eq_natCast, Int.toNat_natCast]
  · cases h
theorem mindex_sound {t : TypeId} {x ix v x' ix' : Value} (h : mindex P t x ix = some v) (hx : ren β x = some x') (hi : ren β ix = some ix') (w : World) : ∃ v', ren β v = some v' ∧ (Instr.index t x' ix').run P w = .ok v' w := by
  unfold mindex at h
  split at h
  · rename_i len e cs k n hu
    split at h
    · rename_i ie hie
      obtain ⟨hn, h⟩ := bif_none h
      have hn := blt_lt hn
      obtain ⟨b, h1, rfl⟩ := ren_agg_inv hx
      cases ren_int_inv hi
      obtain ⟨v', e1, e2⟩ := mpart_sound (c := b) h h1 (List.prefix_refl _) w
      refine ⟨v', e1, ?_⟩
      have c1 : (0 : Int) ≤ (n : Int) ∧ (n : Int) < (len : Int) := ⟨by omega, by omega⟩
      simp only [Instr.index, Sem.run_bind, asIntOf, Sem.run_pure, Result.andThen_ok, run_under hu, c1, and_self, if_true, run_size hie, Int.ofNat_eq_natCast, Int.toNat_natCast, e2]
    · cases h
  · cases h
theorem mextract_sound {x v x' : Value} {i : Nat} (h : mextract x i = some v) (hx : ren β x = some x') (w : World) : ∃ v', ren β v = some v' ∧ (Instr.extract x' i).run P w = .ok v' w := by
  unfold mextract at h
  split at h
  · rename_i vs
    obtain ⟨b, h1, rfl⟩ := ren_tuple_inv hx
    obtain ⟨v', e1, e2⟩ := renL_get h1 h
    refine ⟨v', e2, ?_⟩
    have : b[i]? = some v' := by simpa using e1
    simp only [Instr.extract, this, Sem.run_pure]
  · cases h
theorem marrayAt_sound {t : TypeId} {x v x' : Value} (h : marrayAt P t x = some v) (hx : ren β x = some x') (w : World) : ∃ v', ren β v = some v' ∧ (Instr.arrayAt t x').run P w = .ok v' w := by
  unfold marrayAt at h
  split at h
  · rename_i n e b o len c hu
    obtain ⟨hn, h⟩ := bif_none h
    cases h
    have hn := ble_le hn
    obtain ⟨p, c', h3, h4, rfl⟩ := ren_slice_inv hx
    refine ⟨_, ren_ptr h3 _, ?_⟩
    have : ¬ len < n := by omega
    simp only [Instr.arrayAt, Sem.run_bind, run_under hu, Result.andThen_ok, this, if_false, Sem.run_pure]
  · cases h
/-- A bound, as the model takes it. -/
theorem mbound_some {v : Option Value} {d top n : Nat} (h : mbound v d top = some n) : (v = none ∧ n = d) ∨ (∃ k, v = some (.int k (.ofNat n)) ∧ n ≤ top) := by
  unfold mbound at h
  split at h
  · cases h; exact .inl ⟨rfl, rfl⟩
  · obtain ⟨hn, h⟩ := bif_none h
    cases h
    exact .inr ⟨_, rfl, ble_le hn⟩
  · cases h
theorem run_bound {k : IntKind} {n y : Nat} (code : BoundsCode) (h : n ≤ y) (w : World) : (Instr.sliceBound (.int k (.ofNat n)) y code).run P w = .ok n w := by
  have c1 : (0 : Int) ≤ (n : Int) ∧ (n : Int) ≤ (y : Int) := ⟨by omega, by omega⟩
  simp only [Instr.sliceBound, Sem.run_bind, asIntOf, Sem.run_pure, Result.andThen_ok, c1, and_self, if_true, Int.ofNat_eq_natCast, Int.toNat_natCast]
def renO (β : Beta) : Option Value → Option Value → Prop
  | none, none => True
  | some v, some v' => ren β v = some v'
  | _, _ => False
theorem renO_none {β : Beta} {v : Option Value} (h : renO β none v) : v = none := by cases v <;> first | rfl | cases h
theorem renO_int {β : Beta} {k : IntKind} {i : Int} {v : Option Value} (h : renO β (some (.int k i)) v) : v = some (.int k i) := by
  cases v with
  | none => cases h
  | some x => cases ren_int_inv h; rfl
/-- The three bounds; 'cap'' is the true capacity. -/
theorem bounds_sound {b : Bool} {lo hi mx lo' hi' mx' : Option Value} {len cap cap' top l hh m : Nat} (e1 : mbound mx cap top = some m) (e2 : mbound hi len (pick3 mx m top) = some hh) (e3 : mbound lo 0 hh = some l)
    (k1 : renO β lo lo') (k2 : renO β hi hi') (k3 : renO β mx mx') (ht : top ≤ cap') (hmx : mx.isSome = true → hi.isSome = true) (w : World) :
    ∃ m', (Instr.sliceBounds b len cap' lo' hi' mx').run P w = .ok (l, hh, m') w ∧ (mx = none → m' = cap') ∧ (mx.isSome = true → m' = m ∧ m ≤ cap') := by
  have hlo : (lo' = none ∧ l = 0) ∨ (∃ k, lo' = some (.int k (.ofNat l)) ∧ l ≤ hh) := by
    rcases mbound_some e3 with ⟨rfl, rfl⟩ | ⟨k, rfl, hn⟩
    · exact .inl ⟨renO_none k1, rfl⟩
    · exact .inr ⟨k, renO_int k1, hn⟩
  clear e3 k1
  rcases mbound_some e1 with ⟨rfl, rfl⟩ | ⟨k, rfl, hn⟩
  · obtain rfl := renO_none k3
    refine ⟨cap', ?_, fun _ => rfl, (fun h => by cases h)⟩
    rcases mbound_some e2 with ⟨rfl, rfl⟩ | ⟨k', rfl, hn'⟩
    · obtain rfl := renO_none k2
      simp only [Instr.sliceBounds, Sem.run_bind, Sem.run_pure, Result.andThen_ok, Option.isSome_none, Bool.false_eq_true, if_false]
      rcases hlo with ⟨rfl, rfl⟩ | ⟨k, rfl, hl⟩
      · rfl
      · simp only [Sem.run_bind, run_bound _ hl, Result.andThen_ok, Sem.run_pure]
    · obtain rfl := renO_int k2
      simp only [pick3] at hn'
      simp only [Instr.sliceBounds, Sem.run_bind, Sem.run_pure, Result.andThen_ok, Option.isSome_none, Bool.false_eq_true, if_false]
      rw [run_bound _ (by omega)]
      simp only [Result.andThen_ok]
      rcases hlo with ⟨rfl, rfl⟩ | ⟨k, rfl, hl⟩
      · rfl
      · simp only [Sem.run_bind, run_bound _ hl, Result.andThen_ok, Sem.run_pure]
  · obtain rfl := renO_int k3
    refine ⟨m, ?_, (fun h => by cases h), fun _ => ⟨rfl, by omega⟩⟩
    rcases mbound_some e2 with ⟨rfl, rfl⟩ | ⟨k', rfl, hn'⟩
    · simp at hmx
    · obtain rfl := renO_int k2
      simp only [pick3] at hn'
      simp only [Instr.sliceBounds, Sem.run_bind, Sem.run_pure, Result.andThen_ok, Option.isSome_some, if_true]
      rw [run_bound _ (by omega)]
      simp only [Result.andThen_ok]
      rw [run_bound _ hn']
      simp only [Result.andThen_ok]
      rcases hlo with ⟨rfl, rfl⟩ | ⟨k, rfl, hl⟩
      · rfl
      · simp only [Sem.run_bind, run_bound _ hl, Result.andThen_ok, Sem.run_pure]
theorem renCap_cases {k n c c' : Nat} (h : renCap k n c = some c') : (capHalf.ble c = true ∧ capInf - c + n ≤ k ∧ c' = k - (capInf - c)) ∨ (capHalf.ble c = false ∧ c' = c) := by
  unfold renCap at h
  rcases bif_some h with ⟨h1, h⟩ | ⟨h1, h⟩
  · obtain ⟨h2, h⟩ := bif_none h
    cases h
    exact .inl ⟨h1, ble_le h2, rfl⟩
  · cases h
    exact .inr ⟨h1, rfl⟩
theorem mcut_some {e : TypeId} {a : Option Addr} {l h m : Nat} {v : Value} (hc : mcut P e a l h m = some v) : ∃ ie, P.info? e = some ie ∧ ((∃ b o, a = some ⟨b, o, none⟩ ∧ v = .slice (some ⟨b, bif m.beq l then o else o + l * ie.size, none⟩) (h - l) (m - l)) ∨ (a = none ∧ v = .slice none (h - l) (m - l))) := by
  unfold mcut at hc
  split at hc
  · rename_i ie hi
    refine ⟨ie, hi, ?_⟩
    split at hc
    · cases hc; exact .inl ⟨_, _, rfl, rfl⟩
    · cases hc
    · cases hc; exact .inr ⟨rfl, rfl⟩
  · cases hc
theorem bif_addr {m l b o s : Nat} : (⟨b, bif m.beq l then o else o + l * s, none⟩ : Addr) = if m = l then ⟨b, o, none⟩ else ⟨b, o + l * s, none⟩ := by
  by_cases h : m = l
  · rw [if_pos h, nbeq_true h]; rfl
  · rw [if_neg h, nbeq_false h]; rfl
theorem not_ble {a b : Nat} (h : a.ble b = false) : b < a := by
  rcases Nat.lt_or_ge b a with g | g
  · exact g
  · rw [Nat.ble_eq_true_of_le g] at h; cases h
theorem mslice_sound {t : TypeId} {x v x' : Value} {lo hi mx lo' hi' mx' : Option Value} (h : mslice P t x lo hi mx = some v) (hx : ren β x = some x') (k1 : renO β lo lo') (k2 : renO β hi hi') (k3 : renO β mx mx') (w : World) :
    ∃ v', ren β v = some v' ∧ (Instr.sliceAt t x' lo' hi' mx').run P w = .ok v' w := by
  unfold mslice at h
  split at h
  · rename_i e a len cap hu
    obtain ⟨hor, h⟩ := bif_none' h
    rw [Bool.or_eq_false_iff] at hor
    obtain ⟨hmx, hnil⟩ := hor
    have hmx : mx.isSome = true → hi.isSome = true := by
      intro hh
      rw [hh] at hmx
      cases hi <;> simp_all
    simp only [Option.bind_eq_some_iff] at h
    obtain ⟨m, e1, hh, e2, l, e3, h⟩ := h
    have hlh : l ≤ hh := by
      rcases mbound_some e3 with ⟨_, rfl⟩ | ⟨_, _, hn⟩
      · exact Nat.zero_le _
      · exact hn
    have hcut : mcut P e a l hh m = some v ∧ (((capHalf.ble cap && mx.isNone) = true ∧ (!(l.beq len && !(l.beq 0)) && (m.ble capInf && capHalf.ble (m - l))) = true) ∨ ((capHalf.ble cap && mx.isNone) = false ∧ m.blt capHalf = true)) := by
      rcases bif_some h with ⟨g1, h⟩ | ⟨g1, h⟩
      · obtain ⟨g2, h⟩ := bif_none h
        exact ⟨h, .inl ⟨g1, g2⟩⟩
      · obtain ⟨g2, h⟩ := bif_none h
        exact ⟨h, .inr ⟨g1, g2⟩⟩
    obtain ⟨hcut, hcond⟩ := hcut
    obtain ⟨ie, hie, ⟨b, o, rfl, rfl⟩ | ⟨rfl, rfl⟩⟩ := mcut_some hcut
    · obtain ⟨p, cap', h3, h4, rfl⟩ := ren_slice_inv hx
      have hcc := renCap_cases h4
      have htop : (bif capHalf.ble cap then len else cap) ≤ cap' := by
        rcases hcc with ⟨c1, c2, c3⟩ | ⟨c1, c2⟩
        · rw [c1, cond_true]; omega
        · rw [c1, cond_false, c2]; exact Nat.le_refl _
      obtain ⟨m', r1, r2, r3⟩ := bounds_sound (P := P) (b := true) (cap' := cap') e1 e2 e3 k1 k2 k3 htop hmx w
      have hrun : (Instr.sliceAt t (.slice (some ⟨p.1, o, none⟩) len cap') lo' hi' mx').run P w = .ok (.slice (some (if m' = l then ⟨p.1, o, none⟩ else ⟨p.1, o + l * ie.size, none⟩)) (hh - l) (m' - l)) w := by
        by_cases g : m' = l <;>
        simp only [Instr.sliceAt, Instr.slice, Sem.run_bind, run_under hu, Result.andThen_ok, r1, run_size hie, Sem.run_pure, Option.map_some, addr_add, g, if_true, if_false]
      rw [hrun]
      have hfin : ∀ {c : Nat}, renCap p.2 (hh - l) (m - l) = some (m' - l) → (m = l ↔ m' = l) ∨ l = 0 → ∃ v', ren β (.slice (some ⟨b, bif m.beq l then o else o + l * ie.size, none⟩) (hh - l) (m - l)) = some v' ∧
          Result.ok (.slice (some (if m' = l then ⟨p.1, o, none⟩ else ⟨p.1, o + l * ie.size, none⟩)) (hh - l) (m' - l)) w = Result.ok v' w := by
        intro _ hcap hml
        refine ⟨_, ren_slice h3 hcap _, ?_⟩
        congr 3
        rw [bif_addr]
        rcases hml with hml | rfl
        · by_cases g : m' = l
          · rw [if_pos g, if_pos (hml.2 g)]
          · rw [if_neg g, if_neg (fun g' => g (hml.1 g'))]
        · simp
      rcases hcond with ⟨g1, g2⟩ | ⟨g1, g2⟩
      · obtain ⟨g1, g3⟩ := andb g1
        obtain ⟨g2, g4⟩ := andb g2
        obtain ⟨g4, g5⟩ := andb g4
        have g4 := ble_le g4
        have g5 := ble_le g5
        have hmn : mx = none := by simpa using g3
        subst hmn
        obtain rfl := r2 rfl
        obtain rfl : m = cap := by
          rcases mbound_some e1 with ⟨_, e0⟩ | ⟨_, e0, _⟩
          · exact e0
          · cases e0
        obtain ⟨c1, c2, c3⟩ : capHalf.ble m = true ∧ capInf - m + len ≤ p.2 ∧ m' = p.2 - (capInf - m) := by
          rcases hcc with hc | ⟨c1, c2⟩
          · exact hc
          · rw [c1] at g1; cases g1
        have hle : hh ≤ len := by
          rcases mbound_some e2 with ⟨_, rfl⟩ | ⟨_, _, hmt⟩
          · exact Nat.le_refl _
          · rw [c1] at hmt; exact hmt
        have hpos : 0 < capHalf := by decide
        refine hfin (c := 0) ?_ ?_
        · unfold renCap
          rw [Nat.ble_eq_true_of_le g5, cond_true, Nat.ble_eq_true_of_le (by omega), cond_true]
          congr 1
          omega
        · by_cases hl0 : l = 0
          · exact .inr hl0
          · refine .inl ⟨fun g => by omega, fun g => ?_⟩
            have : l = len := by omega
            rw [nbeq_true this, nbeq_false hl0] at g2
            cases g2
      · have g2 := blt_lt g2
        refine hfin (c := 0) ?_ ?_
        · have : m' = m ∧ m' - l < capHalf := by
            cases mx with
            | some y => obtain ⟨rfl, _⟩ := r3 rfl; exact ⟨rfl, by omega⟩
            | none =>
              obtain rfl := r2 rfl
              obtain rfl : m = cap := by
                rcases mbound_some e1 with ⟨_, e0⟩ | ⟨_, e0, _⟩
                · exact e0
                · cases e0
              rcases hcc with ⟨c1, c2, c3⟩ | ⟨c1, c2⟩
              · rw [c1] at g1; cases g1
              · exact ⟨c2, by omega⟩
          rw [this.1]
          exact renCap_lt (by omega)
        · have : m' = m := by
            cases mx with
            | some y => exact (r3 rfl).1
            | none =>
              obtain rfl := r2 rfl
              obtain rfl : m = cap := by
                rcases mbound_some e1 with ⟨_, e0⟩ | ⟨_, e0, _⟩
                · exact e0
                · cases e0
              rcases hcc with ⟨c1, c2, c3⟩ | ⟨c1, c2⟩
              · rw [c1] at g1; cases g1
              · exact c2
          rw [this]
          exact .inl Iff.rfl
    · have hx0 : x' = .slice none len cap := by simp only [ren, Option.some.injEq] at hx; exact hx.symm
      subst hx0
      rcases Nat.lt_or_ge cap capHalf with g | g
      · have gc : capHalf.ble cap = false := by
          cases e : capHalf.ble cap with
          | false => rfl
          | true => have := ble_le e; omega
        rw [gc] at e1 e2 hcond
        obtain ⟨m', r1, r2, r3⟩ := bounds_sound (P := P) (b := true) (cap' := cap) e1 e2 e3 k1 k2 k3 (by simp) hmx w
        have hm : m' = m := by
          cases mx with
          | some y => exact (r3 rfl).1
          | none =>
            obtain rfl := r2 rfl
            rcases mbound_some e1 with ⟨_, rfl⟩ | ⟨_, e0, _⟩
            · rfl
            · cases e0
        subst hm
        refine ⟨_, rfl, ?_⟩
        simp only [Instr.sliceAt, Instr.slice, Sem.run_bind, run_under hu, Result.andThen_ok, r1, run_size hie, Sem.run_pure, Option.map_none, ite_self]
      · exfalso
        rw [Nat.ble_eq_true_of_le g] at hnil
        cases hnil
  · rename_i n e b o hu
    obtain ⟨hc, h⟩ := bif_none' h
    simp only [Option.bind_eq_some_iff] at h
    obtain ⟨m, e1, hh, e2, l, e3, h⟩ := h
    obtain ⟨ie, hie, hcut⟩ := mcut_some h
    obtain rfl : v = .slice (some ⟨b, bif m.beq l then o else o + l * ie.size, none⟩) (hh - l) (m - l) := by
      rcases hcut with ⟨b', o', h0, h1⟩ | ⟨h0, _⟩
      · cases h0; exact h1
      · cases h0
    have hc1 : n.blt capHalf = true ∧ (mx.isSome && hi.isNone) = false := by
      revert hc
      cases n.blt capHalf <;> cases mx.isSome && hi.isNone <;> simp
    have hmx : mx.isSome = true → hi.isSome = true := by
      intro hh
      have := hc1.2
      rw [hh] at this
      cases hi <;> simp_all
    have hn := blt_lt hc1.1
    obtain ⟨p, h3, rfl⟩ := ren_ptr_inv hx
    obtain ⟨m', r1, r2, r3⟩ := bounds_sound (P := P) (b := false) (cap' := n) e1 e2 e3 k1 k2 k3 (Nat.le_refl _) hmx w
    have hm : m' = m ∧ m ≤ n := by
      cases mx with
      | some y => exact r3 rfl
      | none =>
        obtain rfl := r2 rfl
        rcases mbound_some e1 with ⟨_, rfl⟩ | ⟨_, e0, _⟩
        · exact ⟨rfl, Nat.le_refl _⟩
        · cases e0
    obtain ⟨rfl, hmn⟩ := hm
    refine ⟨_, ren_slice h3 (renCap_lt (by omega)) _, ?_⟩
    rw [bif_addr]
    by_cases g : m' = l <;>
    simp only [Instr.sliceAt, Sem.run_bind, run_under hu, Result.andThen_ok, Instr.sureAddr, r1, run_size hie, Sem.run_pure, addr_add, g, if_true, if_false]
  · cases h
end
end Go.Am
