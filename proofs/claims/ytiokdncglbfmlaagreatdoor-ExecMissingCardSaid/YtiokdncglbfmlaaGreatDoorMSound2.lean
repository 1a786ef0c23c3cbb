/- Building, places, slices. -/
import Derived.Test.YtiokdncglbfmlaaGreatDoorMSound
namespace Go.Am
open Go
theorem spl_succ {c : Array Value} {o : Nat} {v : Value} {l : List Value} (h : o < c.size) : spl (c.setIfInBounds o v) (o + 1) l = spl c o (v :: l) := spl_cons h
theorem fold_spl (off : Nat) : ∀ (l : List Value) (j : Nat) (c : Array Value), off + j + l.length ≤ c.size → (l.zipIdx j).foldl (fun cs (p : Value × Nat) => cs.setIfInBounds (off + p.2) p.1) c = spl c (off + j) l
  | [], j, c, _ => by simp [spl]
  | v :: l, j, c, h => by
    simp only [List.zipIdx_cons, List.foldl_cons, List.length_cons] at h ⊢
    rw [fold_spl off l (j + 1) _ (by simp; omega)]
    exact spl_cons (by omega)
theorem mfill_sound {β : Beta} {place : Nat → Option (Nat × Nat)} : ∀ {parts parts' : List (Nat × Value)} {cells cells' r : List Value}, mfill place cells parts = some r → renL β cells = some cells' →
    parts'.map (·.1) = parts.map (·.1) → renL β (parts.map (·.2)) = some (parts'.map (·.2)) → ∃ r', Instr.fill place ⟨cells'⟩ parts' = some ⟨r'⟩ ∧ renL β r = some r'
  | [], parts', cells, cells', r, h, hc, h1, h2 => by
    simp only [mfill, Option.some.injEq] at h
    subst h
    simp only [List.map_nil, List.map_eq_nil_iff] at h1
    subst h1
    exact ⟨cells', rfl, hc⟩
  | (i, v) :: rest, parts', cells, cells', r, h, hc, h1, h2 => by
    cases parts' with
    | nil => simp at h1
    | cons p rest' =>
      obtain ⟨i', v'⟩ := p
      simp only [List.map_cons, List.cons.injEq] at h1
      obtain ⟨rfl, h1⟩ := h1
      simp only [List.map_cons, renL, Option.bind_eq_some_iff, Option.map_eq_some_iff, List.cons.injEq] at h2
      obtain ⟨x, e1, y, e2, rfl, rfl⟩ := h2
      simp only [mfill] at h
      split at h
      · cases h
      · rename_i off size hpl
        obtain ⟨hn, h⟩ := bif_none h
        obtain ⟨hsz, hle⟩ := andb hn
        have hsz := beq_eq hsz
        have hle := ble_le hle
        have hcv := ren_cells e1
        have e3 := renL_length hcv
        have e4 := renL_length hc
        have hlen : x.cells.toList.length = x.cells.size := rfl
        obtain ⟨r', h3, h4⟩ := mfill_sound h (renL_spl off hc hcv) h1 e2
        refine ⟨r', ?_, h4⟩
        unfold Instr.fill
        simp only [hpl]
        rw [if_neg (by simp only [not_or, ne_eq, Decidable.not_not]; simp; omega)]
        have hf := fold_spl off x.cells.toList 0 ⟨cells'⟩ (by simp; omega)
        simp only [Nat.add_zero] at hf
        have : (x.cells.zipIdx.foldl (fun (cs : Array Value) (p : Value × Nat) => cs.setIfInBounds (off + p.2) p.1) (Array.mk cells')) = Array.mk (splL cells' off x.cells.toList) := by
          rw [← Array.foldl_toList, Array.toList_zipIdx, hf]
          rfl
        rw [this]
        exact h3
theorem evParts_sound {β : Beta} {ev : Operand → Option Value} {ρ : Operand → Value} (hev : ∀ x v, ev x = some v → ren β v = some (ρ x)) : ∀ {l : List (Nat × Operand)} {r : List (Nat × Value)}, evParts ev l = some r →
    (l.map fun p => (p.1, ρ p.2)).map (·.1) = r.map (·.1) ∧ renL β (r.map (·.2)) = some ((l.map fun p => (p.1, ρ p.2)).map (·.2))
  | [], r, h => by simp only [evParts, Option.some.injEq] at h; subst h; exact ⟨rfl, rfl⟩
  | (i, x) :: l, r, h => by
    simp only [evParts] at h
    split at h
    · rename_i v r' h1 h2
      cases h
      obtain ⟨e1, e2⟩ := evParts_sound hev h2
      refine ⟨by simp at e1 ⊢; exact e1, ?_⟩
      simp only [List.map_cons]
      exact renL_cons (hev _ _ h1) e2
    · cases h
theorem evAll_sound {β : Beta} {ev : Operand → Option Value} {ρ : Operand → Value} (hev : ∀ x v, ev x = some v → ren β v = some (ρ x)) : ∀ {l : List Operand} {r : List Value}, evAll ev l = some r → renL β r = some (l.map ρ)
  | [], r, h => by simp only [evAll, Option.some.injEq] at h; subst h; rfl
  | x :: l, r, h => by
    simp only [evAll] at h
    split at h
    · rename_i v r' h1 h2
      cases h
      exact renL_cons (hev _ _ h1) (evAll_sound hev h2)
    · cases h
theorem renCap_lt {k n c : Nat} (h : c < capHalf) : renCap k n c = some c := by
  have : capHalf.ble c = false := by
    cases e : capHalf.ble c with
    | false => rfl
    | true => have := ble_le e; omega
  simp [renCap, this]
section
variable {P : Program} {β : Beta} {s : St} {w : World}
theorem mbuild_sound {t : TypeId} {parts : List (Nat × Value)} {parts' : Array (Nat × Value)} {v : Value} (h : mbuild P t parts = some v) (h1 : parts'.toList.map (·.1) = parts.map (·.1)) (h2 : renL β (parts.map (·.2)) = some (parts'.toList.map (·.2))) (w : World) :
    ∃ v', ren β v = some v' ∧ (Instr.build t parts').run P w = .ok v' w := by
  unfold mbuild at h
  split at h
  · rename_i z pl hz hpl
    simp only [Option.map_eq_some_iff] at h
    obtain ⟨r, h, rfl⟩ := h
    obtain ⟨it, hi, hz1, hg, hz2⟩ := mzero_sound hz w
    obtain ⟨r', h3, h4⟩ := mfill_sound h (ren_cells (ren_ground (β := β) hg)) h1 h2
    refine ⟨.agg ⟨r'⟩, by simp [ren, renA, h4], ?_⟩
    refine run_build w t parts' ⟨r'⟩ ?_
    unfold mplaces at hpl
    unfold Program.built
    split at hpl
    · rename_i n e hu
      split at hpl
      · rename_i ie hie
        cases hpl
        simp only [hi, hu, hz1, hie]
        exact h3
      · cases hpl
    · rename_i fields hu
      split at hpl
      · rename_i places hp
        cases hpl
        simp only [hi, hu, hz1, hp]
        have : (fun (i : Nat) => places.toArray[i]?) = fun (i : Nat) => places[i]? := by funext i; simp
        rw [this]
        exact h3
      · cases hpl
    · cases hpl
  · cases h
theorem range_map_zeros (z : Array Value) : ∀ n, (List.range (n * z.size)).map (fun i => z[i % z.size]!) = mzeros z.toList n
  | 0 => by simp [mzeros]
  | n + 1 => by
    rw [mzeros, Nat.add_mul, Nat.one_mul, Nat.add_comm (n * z.size), List.range_add, List.map_append, List.map_map]
    congr 1
    · apply List.ext_getElem
      · simp
      · intro i h1 h2
        simp at h1 h2
        simp [Nat.mod_eq_of_lt h1, h1]
    · rw [← range_map_zeros z n]
      congr 1
      funext i
      simp
theorem groundL_mzeros {z : List Value} (h : groundL z = true) : ∀ n, groundL (mzeros z n) = true := by
  have happ : ∀ (a b : List Value), groundL a = true → groundL b = true → groundL (a ++ b) = true := by
    intro a b ha hb
    induction a with
    | nil => exact hb
    | cons v a ih =>
      simp only [groundL, Bool.and_eq_true, List.cons_append] at ha ⊢
      exact ⟨ha.1, ih ha.2⟩
  intro n
  induction n with
  | zero => rfl
  | succ n ih => exact happ _ _ h ih
theorem ground_cells {z : Value} (h : ground z = true) : groundL z.cells.toList = true := by
  cases z with
  | agg a => obtain ⟨l⟩ := a; simpa [Value.cells, ground, groundA] using h
  | _ => simp only [Value.cells, groundL, h, Bool.and_true]
/-- A row of zero values. -/
theorem mrow_sound {e : TypeId} {n : Nat} {row : List Value} (h : mrow P e n = some row) (w : World) : ∃ ie, P.info? e = some ie ∧ groundL row = true ∧
    ((n * ie.size = 0 ∧ row = []) ∨ (n * ie.size ≠ 0 ∧ ∃ z : Value, (zeroValue e).run P w = .ok z w ∧ (Array.range (n * ie.size)).map (fun i => z.cells[i % z.cells.size]!) = ⟨row⟩)) := by
  unfold mrow at h
  split at h
  · rename_i ie hi
    refine ⟨ie, hi, ?_⟩
    rcases bif_some h with ⟨h0, h⟩ | ⟨h0, h⟩
    · cases h
      exact ⟨rfl, .inl ⟨beq_eq h0, rfl⟩⟩
    · split at h
      · rename_i z hz
        obtain ⟨it, hi', hz1, hg, hz2⟩ := mzero_sound hz w
        rw [hi] at hi'
        cases hi'
        obtain ⟨hn, h⟩ := bif_none h
        cases h
        have hn := beq_eq hn
        have h00 : n * ie.size ≠ 0 := by
          intro e0
          rw [e0] at h0
          cases h0
        refine ⟨groundL_mzeros (ground_cells hg) n, .inr ⟨h00, z, hz2, ?_⟩⟩
        apply Array.ext'
        have : z.cells.size = ie.size := hn
        rw [← this, Array.toList_map, Array.toList_range]
        exact range_map_zeros _ n
      · cases h
  · cases h
theorem mbuildSlice_sound {t : TypeId} {n : Nat} {parts : List (Nat × Value)} {parts' : Array (Nat × Value)} {v : Value} {s' : St} (h : mbuildSlice P t n parts s = some (v, s')) (h1 : parts'.toList.map (·.1) = parts.map (·.1)) (h2 : renL β (parts.map (·.2)) = some (parts'.toList.map (·.2)))
    (hR : Rel P β s w) (hf : Fresh β s.c s'.c) : ∃ β' v' w', ren β' v = some v' ∧ (Instr.buildSlice t n parts').run P w = .ok v' w' ∧ Step P β β' s s' w w' := by
  unfold mbuildSlice at h
  split at h
  · rename_i e hu
    split at h
    · rename_i ie row hi hrow
      obtain ⟨hn, h⟩ := bif_none h
      split at h
      · rename_i l hl
        obtain ⟨hlen, h⟩ := bif_none h
        cases h
        obtain ⟨hn, hc⟩ := andb hn
        have hn := ble_le hn
        have hlen := beq_eq hlen
        obtain ⟨ie', hi', hg, hrow'⟩ := mrow_sound hrow w
        rw [hi] at hi'
        cases hi'
        obtain ⟨r', h3, h4⟩ := mfill_sound hl (renL_ground (β := β) hg) h1 h2
        have e1 := renL_length h4
        have hfc : β s.c = none := hf s.c (Nat.le_refl _) (by simp [mnew, St.new])
        have hst := cells_new (K := n) (junk := []) (e := e) hR h4 hfc (by rw [List.append_nil, e1, hlen]; simp [sz, hi])
        refine ⟨_, .slice (some ⟨w.heap.size, 0, none⟩) n n, _, ?_, ?_, hst⟩
        · simp [ren, Beta.put, renCap_lt (blt_lt hc)]
        · simp only [Instr.buildSlice, Sem.run_bind, run_under hu, Result.andThen_ok, run_size hi]
          rw [if_neg (by omega)]
          rcases hrow' with ⟨h0, rfl⟩ | ⟨h0, z, hz, hrow'⟩
          · rw [if_pos h0]
            have e0 : ∀ (f : Nat → Value), Array.map f (Array.range (n * ie.size)) = ⟨[]⟩ := by intro f; rw [h0]; simp
            simp only [Sem.run_bind, Sem.run_pure, Result.andThen_ok, e0, h3, List.append_nil, newRow, run_newObj, World.alloc_eq]
          · rw [if_neg h0]
            simp only [Sem.run_bind, hz, Sem.run_pure, Result.andThen_ok, hrow', h3, List.append_nil, newRow, run_newObj, World.alloc_eq]
      · cases h
    · cases h
  · cases h
end
end Go.Am
