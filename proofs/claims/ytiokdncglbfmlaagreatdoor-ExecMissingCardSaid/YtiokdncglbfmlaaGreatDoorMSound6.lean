/- Append and copy, whole. -/
import Derived.Test.YtiokdncglbfmlaaGreatDoorMSound5
namespace Go.Am
open Go
section
variable {P : Program} {β : Beta} {s : St} {w : World}
theorem renL_nil_of {l : List Value} (h : l.length = 0) : l = [] := List.length_eq_zero_iff.1 h
theorem mcells_len {size n : Nat} {x : Value} {l : List Value} (h : mcells s size n x = some l) (hx : (∃ b o m c, x = .slice (some ⟨b, o, none⟩) m c)) : l.length = n * size := by
  obtain ⟨b, o, m, c, rfl⟩ := hx
  unfold mcells at h
  simp only at h
  split at h
  · have h_ := bif_none h; clear h; obtain ⟨hn, h⟩ := h_
    cases h
    exact beq_eq hn
  · cases h
theorem mcells_len_y {size k : Nat} {y : Value} {l : List Value} (h : mcells s size k y = some l) (hk : mlen y = some k) (hs : ∀ x, y = .string x → size = 1) (hn : ∀ m c, y = .slice none m c → m = 0) : l.length = k * size := by
  cases y with
  | slice a m c =>
    rcases a with _ | ⟨b, o, _ | sp⟩
    · cases h
      simp only [mlen, Option.some.injEq] at hk
      subst hk
      rw [hn _ _ rfl]
      simp
    · exact mcells_len h ⟨b, o, m, c, rfl⟩
    · cases h
  | string x =>
    unfold mcells at h
    have h_ := bif_none h; clear h; obtain ⟨hle, h⟩ := h_
    cases h
    have hle := ble_le hle
    rw [hs x rfl]
    simp
    have : x.data.size = x.size := rfl
    omega
  | _ => cases h
theorem mappend_sound {t t' ty : TypeId} {d : TypeDesc} {x y v x' y' : Value} {s' : St} (h : mappend P t x y s = some (v, s')) (hx : ren β x = some x') (hy : ren β y = some y') (hu' : P.underlying t' = some d) (hd : isIntD d = false) (hR : Rel P β s w) (hf : Fresh β s.c s'.c) :
    ∃ β' v' w', ren β' v = some v' ∧ (Builtin.append_ #[t, t'] ty #[x', y']).run P w = .ok v' w' ∧ Step P β β' s s' w w' := by
  unfold mappend at h
  split at h
  · rename_i e a n c hu
    split at h
    · rename_i ie k hi hk
      simp only [Option.bind_eq_some_iff] at h
      obtain ⟨new, hnew, h_⟩ := h
      have h := h_; clear h_
      have h_ := bif_none h; clear h; obtain ⟨hg, h⟩ := h_
      obtain ⟨hlen, hg⟩ := andb hg
      obtain ⟨h1, hg⟩ := andb hg
      obtain ⟨hbytes, hmax⟩ := andb hg
      have hlen := beq_eq hlen
      have hbytes := ble_le hbytes
      have hmax := ble_le hmax
      obtain ⟨new', hn1, hn2, hn3⟩ := mcells_sound (P := P) hnew hy hR
      obtain ⟨newd, hd1, hd2, hd3⟩ := mcells_sound (P := P) hnew hy (rel_drew hR)
      obtain rfl : new' = newd := by rw [hn1] at hd1; exact Option.some.inj hd1
      have hlk := fun w => mlen_sound (P := P) hk hy w
      split at h
      · -- nil
        have h_ := bif_none h; clear h; obtain ⟨h0, h⟩ := h_
        obtain ⟨hn0, hc0⟩ := andb h0
        obtain rfl := beq_eq hn0
        obtain rfl := beq_eq hc0
        simp only [ren, Option.some.injEq] at hx
        subst hx
        have h_ := bif_some h; clear h; rcases h_ with ⟨hk0, h⟩ | ⟨hk0, h⟩
        · cases h
          obtain rfl := beq_eq hk0
          exact ⟨β, _, w, rfl, run_into_nil hu hu' hd hi hlk (by omega) hn3, step_refl hR⟩
        · have hkp : 0 < k := by
            rcases Nat.eq_zero_or_pos k with rfl | hp
            · cases hk0
            · exact hp
          obtain ⟨z, hz, β', hv, hst⟩ := mgrow_sound (old := []) (new := new') (c := 0) h (by simpa using hn1) hlen hi rfl hR hf
          have hr := run_grow (ty := ty) (a := none) (n := 0) (c := 0) hu hu' hd hi hz hlk (by omega) (by simpa using hbytes) (by simpa using hmax) (old := []) rfl hd3
          simp only [Nat.zero_add] at hr
          exact ⟨β', _, _, hv, hr, hst⟩
      · rename_i b o
        obtain ⟨p, c', hp, hcap, rfl⟩ := ren_slice_inv hx
        have hcc := renCap_cases hcap
        split at h
        · rename_i l be hget
          have h_ := bif_some h; clear h; rcases h_ with ⟨hk0, h⟩ | ⟨hk0, h⟩
          · have h_ := bif_none h; clear h; obtain ⟨hc, h⟩ := h_
            cases h
            obtain rfl := beq_eq hk0
            have hnc : n ≤ c' := by
              rcases hcc with ⟨c1, c2, c3⟩ | ⟨c1, c2⟩
              · omega
              · rw [c1] at hc
                have := ble_le (by simpa using hc)
                omega
            have hnil : new' = [] := renL_nil_of (by rw [hn2, hlen]; simp)
            rw [hnil] at hn3
            refine ⟨β, _, w, ?_, run_into hu hu' hd hi hlk (by omega) hn3 (by simp [storeCells]), step_refl hR⟩
            exact ren_slice hp hcap o
          · have hkp : 0 < k := by
              rcases Nat.eq_zero_or_pos k with rfl | hpk
              · cases hk0
              · exact hpk
            obtain ⟨bb, K, cc, lo, hi', e1, e2, e3, e4, l', e5, e6⟩ := hR.fits _ _ hget
            rw [hp] at e1
            cases e1
            have hll := renL_length e5
            have hpl := e6.length_le
            simp only [Array.length_toList] at hpl
            have h_ := bif_some h; clear h; rcases h_ with ⟨hinf, h⟩ | ⟨hinf, h⟩
            · obtain ⟨c1, c2, c3⟩ : capHalf.ble c = true ∧ capInf - c + n ≤ K ∧ c' = K - (capInf - c) := by
                rcases hcc with hcc | ⟨c1, _⟩
                · exact hcc
                · rw [c1] at hinf; cases hinf
              have h_ := bif_some h; clear h; rcases h_ with ⟨hroom, h⟩ | ⟨hroom, h⟩
              · have h_ := bif_none h; clear h; obtain ⟨hal, h⟩ := h_
                obtain ⟨ho, hal⟩ := andb hal
                obtain ⟨hs0, hbe⟩ := andb hal
                have ho := beq_eq ho
                have hs0 := nbeq_ne hs0
                obtain rfl := beq_eq hbe
                have hroom := ble_le hroom
                have hszz : sz P be = ie.size := by simp [sz, hi]
                have hfit : n + k ≤ c' := by
                  rw [hszz] at e3
                  have : (capInf - c + (n + k)) * ie.size ≤ K * ie.size := by rw [Nat.add_mul]; omega
                  have := Nat.le_of_mul_le_mul_right this (by omega)
                  omega
                have hcap' : renCap K (n + k) c = some c' := by
                  unfold renCap
                  rw [c1, cond_true, Nat.ble_eq_true_of_le (by omega), cond_true, c3]
                obtain ⟨w', hv, hst, hstep⟩ := minto_sound (p := (bb, K)) h hp hget hR hn1 hlen h1 hcap'
                exact ⟨β, _, w', hv, run_into hu hu' hd hi hlk hfit hn3 hst, hstep⟩
              · have h_ := bif_none h; clear h; obtain ⟨hal, h⟩ := h_
                obtain ⟨hal, hs0⟩ := andb hal
                obtain ⟨hal, hal2⟩ := andb hal
                obtain ⟨ho, hci⟩ := andb hal
                obtain ⟨hll0, hbe⟩ := andb hal2
                obtain rfl := beq_eq ho
                obtain rfl := beq_eq hci
                obtain rfl := beq_eq hbe
                have hll0 := beq_eq hll0
                have hs0 := nbeq_ne hs0
                rw [Nat.sub_self, Nat.sub_zero] at c3
                have hszz : sz P be = ie.size := by simp [sz, hi]
                rw [hszz] at e3
                by_cases hroom' : n + k ≤ K
                · unfold mgrow at h
                  have h_ := bif_none h; clear h; obtain ⟨_, h⟩ := h_
                  cases h
                  have hfc : β s.c = none := hf s.c (Nat.le_refl _) (by simp [mnew, St.new])
                  have hmul : (n + k) * ie.size ≤ K * ie.size := Nat.mul_le_mul_right _ hroom'
                  rw [Nat.add_mul] at hmul
                  have hmv := step_move hR hfc hget hp e2 (by rw [hszz]; exact e3) e4 e5 e6 hn1 (by omega)
                  have hst := run_store_at (P := P) (0 + n * ie.size) new' 0 cc w e2 e4 (by omega) (one_renL hn1 h1)
                  have e7 : 0 + n * ie.size + 0 = l'.length := by omega
                  rw [e7] at hst
                  subst c3
                  refine ⟨_, .slice (some ⟨bb, 0, none⟩) (n + k) c', _, ?_, run_into hu hu' hd hi hlk hroom' hn3 hst, hmv⟩
                  have hcap' : renCap c' (n + k) capInf = some c' := by
                    unfold renCap
                    rw [show capHalf.ble capInf = true by decide, cond_true, Nat.sub_self, Nat.zero_add, Nat.ble_eq_true_of_le hroom', cond_true, Nat.sub_zero]
                  exact ren_slice (p := (bb, c')) (beta_put_eq _ _ _) hcap' 0
                · subst c3
                  have hdrop := step_drop (i := b) hR
                  have hcells : mcells s ie.size n (.slice (some ⟨b, 0, none⟩) n capInf) = some l := by
                    unfold mcells
                    simp only [hget, List.drop_zero]
                    rw [List.take_of_length_le (by omega), nbeq_true hll0]; rfl
                  obtain ⟨old', ho1, ho2, ho3⟩ := mcells_sound (P := P) hcells hx (rel_drew hR)
                  obtain ⟨z, hz, β', hv, hst⟩ := mgrow_sound (old := old') (new := new') (c := c') h (renL_append ho1 hn1) (by rw [List.length_append, hll0, hlen, Nat.add_mul]) hi rfl hdrop.rel hf
                  exact ⟨β', _, _, hv, run_grow hu hu' hd hi hz hlk (by omega) hbytes hmax ho3 hd3, step_trans hdrop hst⟩
            · obtain ⟨c1, rfl⟩ : capHalf.ble c = false ∧ c' = c := by
                rcases hcc with ⟨c1, _⟩ | hcc
                · rw [c1] at hinf; cases hinf
                · exact hcc
              have h_ := bif_some h; clear h; rcases h_ with ⟨hroom, h⟩ | ⟨hroom, h⟩
              · have hroom := ble_le hroom
                have hcap' : renCap K (n + k) c' = some c' := by unfold renCap; rw [c1]; rfl
                obtain ⟨w', hv, hst, hstep⟩ := minto_sound (p := (bb, K)) h hp hget hR hn1 hlen h1 hcap'
                exact ⟨β, _, w', hv, run_into hu hu' hd hi hlk hroom hn3 hst, hstep⟩
              · split at h
                · rename_i old hold
                  have hroom := not_ble hroom
                  obtain ⟨old', ho1, ho2, ho3⟩ := mcells_sound (P := P) hold hx (rel_drew hR)
                  have hol := mcells_len hold ⟨_, _, _, _, rfl⟩
                  obtain ⟨z, hz, β', hv, hst⟩ := mgrow_sound (old := old') (new := new') (c := c') h (renL_append ho1 hn1) (by rw [List.length_append, hol, hlen, Nat.add_mul]) hi rfl hR hf
                  exact ⟨β', _, _, hv, run_grow hu hu' hd hi hz hlk hroom hbytes hmax ho3 hd3, hst⟩
                · cases h
        · cases h
      · cases h
    · cases h
  · cases h
theorem mcopy_sound {t ty : TypeId} {ats : Array TypeId} {x y v x' y' : Value} {s' : St} (h : mcopy P t x y s = some (v, s')) (hx : ren β x = some x') (hy : ren β y = some y') (ha : ats[0]? = some t) (hR : Rel P β s w) :
    ∃ v' w', ren β v = some v' ∧ (Builtin.copy_ ats ty #[x', y']).run P w = .ok v' w' ∧ Step P β β s s' w w' := by
  unfold mcopy at h
  split at h
  · rename_i e a n c hu
    split at h
    · rename_i ie k hi hk
      simp only [Option.bind_eq_some_iff] at h
      obtain ⟨new, hnew, h_⟩ := h
      have h := h_; clear h_
      have h_ := bif_none h; clear h; obtain ⟨h1, h⟩ := h_
      obtain ⟨new', hn1, hn2, hn3⟩ := mcells_sound (P := P) hnew hy hR
      have hlk := mlen_sound (P := P) hk hy w
      split at h
      · have h_ := bif_none h; clear h; obtain ⟨he, h⟩ := h_
        cases h
        simp only [ren, Option.some.injEq] at hx
        subst hx
        refine ⟨_, w, rfl, ?_, step_refl hR⟩
        simp only [Builtin.copy_, ha, List.getElem?_toArray, List.getElem?_cons_zero, List.getElem?_cons_succ, Sem.run_bind, run_under hu, Result.andThen_ok, hlk, run_size hi, hn3, Sem.run_pure]
        rfl
      · rename_i b o
        obtain ⟨p, c', hp, hcap, rfl⟩ := ren_slice_inv hx
        split at h
        · rename_i l be hget
          have h_ := bif_none h; clear h; obtain ⟨hle, h⟩ := h_
          cases h
          have hle := ble_le hle
          obtain ⟨bb, K, cc, lo, hi', e1, e2, e3, e4, l', e5, e6⟩ := hR.fits _ _ hget
          rw [hp] at e1
          cases e1
          have hll := renL_length e5
          have hpl := e6.length_le
          simp only [Array.length_toList] at hpl
          refine ⟨_, _, rfl, ?_, cells_put (o := o) hR hget hp e2 e3 e4 e5 e6 hn1 hle⟩
          have hst := run_store_at (P := P) o new' 0 cc w e2 e4 (by omega) (one_renL hn1 h1)
          simp only [Builtin.copy_, ha, List.getElem?_toArray, List.getElem?_cons_zero, List.getElem?_cons_succ, Sem.run_bind, run_under hu, Result.andThen_ok, hlk, run_size hi, hn3, hst, Sem.run_pure, Nat.add_zero]
          rfl
        · cases h
      · cases h
    · cases h
  · cases h
end
end Go.Am
