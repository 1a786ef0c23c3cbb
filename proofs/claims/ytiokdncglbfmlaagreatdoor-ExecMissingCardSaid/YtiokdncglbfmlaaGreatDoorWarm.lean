/- A transaction that came in: its row of warm accounts as it lies in memory. -/
import Derived.Test.YtiokdncglbfmlaaGreatDoorGreat
namespace Go.Proofs.YtiokdncglbfmlaaGreatDoor
open Go Go.RowKit Go.Sm Go.BigFrame Go.ChangeShapes Go.Deep
set_option maxRecDepth 100000
section
variable {H : Type} {enc' : TypeId × Value → H} {P : Program} {w : World} {base : Nat} {spare : Nat → Bool} {held : Bool}
theorem slice_field {t e : TypeId} {fs : Array Field} {f : Field} {fuel : Nat} {cs : List Value} {x : DataW H × List MemPlace} (ht : P.underlying t = some (.struct fs)) (h : DataW.trod enc' P w base spare held fuel t cs = some x) (i : Nat) (hf : fs[i]? = some f) (hu : P.underlying f.type = some (.slice e)) (h1 : P.cellsOf f.type = 1) :
    ∃ s : Sl, cs[f.offset]? = some (.slice s.a s.n s.c) ∧ s.n ≤ maxLen ∧ (0 < s.n → ∃ a n, s.a = some a ∧ ∀ j, j < s.n → ∃ cs' y, w.cells? base (a.add (j * P.cellsOf e)) (P.cellsOf e) = some cs' ∧ DataW.trod enc' P w base spare held n e cs' = some y) := by
  obtain ⟨xs, n, _, _, hl, hlen, hall⟩ := DataW.trod_struct ht h
  have hi : i < fs.size := (Array.getElem?_eq_some_iff.1 hf).1
  have hy := hall i f hf
  rw [List.getElem?_eq_getElem (by omega), h1] at hy
  have key : ∀ v, (cs.drop f.offset).take 1 = [v] → cs[f.offset]? = some v := by
    intro v hv
    have : ((cs.drop f.offset).take 1)[0]? = some v := by rw [hv]; rfl
    simpa using this
  rcases open_slice hu hy with ⟨h0, _⟩ | ⟨a, len, cap, m, k, D, Pl, h0, _, hlc, hcap, hm, _, hel⟩
  · exact ⟨Sl.nil, key _ h0, by simp [Sl.nil], fun h => absurd h (by simp [Sl.nil])⟩
  · refine ⟨⟨some a, len, cap⟩, key _ h0, Nat.le_trans hlc hcap, fun _ => ⟨a, k, rfl, fun j hj => ?_⟩⟩
    obtain ⟨cs', e1, e2⟩ := hel j (by simp only at hj; rw [hm]; split <;> omega)
    exact ⟨cs', _, e1, e2⟩
end
theorem fields41 : ∃ fs f, Tryz.prog.underlying 41 = some (.struct fs) ∧ fs[9]? = some f ∧ f.type = 39 ∧ f.offset = 56 := ⟨_, _, Tryz.underlying41, rfl, rfl, rfl⟩
theorem fields107 : ∃ fs f, Tryz.prog.underlying 107 = some (.struct fs) ∧ fs[1]? = some f ∧ f.type = 105 ∧ f.offset = 20 := ⟨_, _, Tryz.underlying107, rfl, rfl, rfl⟩
theorem warmAt_of {H : Type} {enc' : TypeId × Value → H} {w : World} {spare : Nat → Bool} {held : Bool} {t : ApiTx} {d : DataW H} {p : List MemPlace} (h : DataW.Trod enc' Tryz.prog w 0 spare held 41 (.agg t.cells) d p) : WarmAt w t.f_Warm := by
  obtain ⟨fuel, h⟩ := h
  obtain ⟨fs, f, hu, hf, ht, ho⟩ := fields41
  obtain ⟨s, hs, hn, hel⟩ := slice_field hu h 9 hf (e := 107) (by rw [ht]; exact Tryz.underlying39) (by rw [ht]; kernel_rfl)
  have hs' : (Value.agg t.cells).cells.toList[f.offset]? = some (Value.slice t.f_Warm.a t.f_Warm.n t.f_Warm.c) := by
    rw [ho]
    have := ApiTx.get_Warm t
    simpa [Value.cells] using this
  rw [hs'] at hs
  simp only [Option.some.injEq, Value.slice.injEq] at hs
  obtain ⟨e1, e2, e3⟩ := hs
  refine ⟨fun hp => ?_⟩
  obtain ⟨a, n, ha, hel⟩ := hel (by omega)
  have hc : Tryz.prog.cellsOf 107 = 21 := by kernel_rfl
  rw [hc] at hel
  obtain ⟨fs2, f2, hu2, hf2, ht2, ho2⟩ := fields107
  have hcell : ∀ j, j < s.n → ∃ cs' : List Value, (∀ i, i < 21 → w.cell? ((a.add (j * 21)).add i) = cs'[i]?) ∧ cs'.length = 21 ∧ ∃ r : Sl, cs'[20]? = some (.slice r.a r.n r.c) := by
    intro j hj
    obtain ⟨cs', y, g1, g2⟩ := hel j hj
    obtain ⟨_, g3, g4⟩ := World.cells?_some g1
    obtain ⟨r, g5, _⟩ := slice_field hu2 g2 1 hf2 (e := 26) (by rw [ht2]; exact Tryz.underlying105) (by rw [ht2]; kernel_rfl)
    rw [ho2] at g5
    exact ⟨cs', g4, g3, r, g5⟩
  have hsome : ∀ j i, j < s.n → i < 21 → ∃ v, w.cell? ((a.add (j * 21)).add i) = some v := by
    intro j i hj hi
    obtain ⟨cs', g4, g3, _⟩ := hcell j hj
    exact ⟨_, (g4 i hi).trans (List.getElem?_eq_getElem (by omega))⟩
  obtain ⟨b, off, spot⟩ := a
  have hspot : spot = none := by
    obtain ⟨v, hv⟩ := hsome 0 0 (by omega) (by omega)
    simp only [Nat.zero_mul, Addr.add, if_true] at hv
    unfold World.cell? at hv
    split at hv
    · split at hv
      · cases hv
      · rename_i hh
        simpa using hh
    · cases hv
  subst hspot
  have hadd : ∀ j i, ((⟨b, off, none⟩ : Addr).add (j * 21)).add i = ⟨b, off + j * 21 + i, none⟩ := by
    intro j i
    unfold Addr.add
    split <;> split <;> simp_all
  refine ⟨b, off, by rw [e1, ha], ?_, fun j hj => ?_⟩
  · obtain ⟨v, hv⟩ := hsome 0 0 (by omega) (by omega)
    rw [hadd] at hv
    by_cases hb : b < w.heap.size
    · exact hb
    · unfold World.cell? at hv
      rw [Array.getElem?_eq_none (by show w.heap.size ≤ b; omega)] at hv
      cases hv
  · have hj' : j < s.n := by omega
    obtain ⟨cs', g4, g3, r, g5⟩ := hcell j hj'
    have h20 := (g4 20 (by omega)).trans g5
    rw [hadd, cell?_eq] at h20
    exact ⟨by have := (Array.getElem?_eq_some_iff.1 h20).1; omega, r, h20⟩
end Go.Proofs.YtiokdncglbfmlaaGreatDoor
