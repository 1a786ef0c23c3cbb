/- What every law's row wants beside the walk: the arguments read as they did; cells that are of their kinds. -/
import Derived.Test.YtiokdncglbfmlaaGreatDoorProg
import Derived.Test.YtiokdncglbfmlaaGreatDoorMem
import Derived.Below
import Derived.ChangeSame
import Derived.ChangeStays
import Derived.ProofKit
import Derived.KernelRfl
namespace Go.Sm
open Go Go.RowKit Go.ChangeShapes Go.WideShapes
section
variable {H : Type} {enc : TypeId × Value → H} {P : Program}
theorem post_below {f : Func} {s : ChangeSpec} {apart fresh handsOn again : Bool} {W W' : World} {args : Array Value} {v : Value} {ds gs : List (DataW H)} {before pa pv : List MemPlace}
    (hW : DataW.Whole enc P f.params.toList s.vars apart W args.toList ds gs before)
    (hres : ∀ (b : Nat) (sp : Nat → Bool) (hd : Bool), DataW.TrodAll enc P W' b sp hd f.resultTypes.toList (v.resultList f.resultTypes.size) (s.fn H (ds ++ gs)).results [])
    (hargs : ∀ sp : Nat → Bool, (∀ p ∈ before, sp p.block = true) → DataW.TrodAll enc P W' 0 sp true f.params.toList args.toList (s.fn H (ds ++ gs)).args pa)
    (hvars : ∀ sp : Nat → Bool, (∀ p ∈ before, sp p.block = true) → DataW.TrodVars enc P W' sp s.vars (s.fn H (ds ++ gs)).vars pv)
    (hps : before = pa ++ pv) (hb : Below W.heap.size W W')
    (hok : ∀ (j : Nat) (t : TypeId) (r : Value), f.resultTypes[j]? = some t → (v.resultList f.resultTypes.size)[j]? = some r → Value.okWide P W' .any 0 t r) :
    s.post enc P f apart fresh handsOn again W args v W' := by
  have hlt : ∀ p ∈ before, p.block < W.heap.size := fun p hp => hW.lt p hp
  have hold : ∀ p ∈ before, (fun b => decide (b < W.heap.size)) p.block = true := fun p hp => by simpa using hlt p hp
  refine ⟨ds, gs, before, [], pa, pv, hW, hres _ _ _, hargs _ hold, hvars _ hold, World.keptBut_mono (fun p hp => ⟨hp, ?_⟩) (hb.frame (· ∈ before)), fun _ => ?_⟩
  · rw [hps, List.mem_append] at hp
    exact Or.inr hp
  · obtain ⟨_, _, _, _, _, hz, hn⟩ := hW
    refine ⟨hok, _, _, ([] ++ pa) ++ pv, ⟨[] ++ pa, pv, trodAll_append (hargs _ (fun _ _ => rfl)) (hres _ _ _), hvars _ (fun _ _ => rfl), rfl, ?_, ?_⟩, ?_⟩
    · intro b off hp
      have hin : MemPlace.cell b off ∈ before := by rw [hps]; simpa using hp
      rw [hb.frozen (hlt _ hin)]
      exact hz b off hin
    · intro ha
      have := hn ha
      rw [hps] at this
      simpa using this
    · intro p hp _
      rw [hps]
      simpa using hp
/-- Slices of the table have elements with cells. -/
def slicesB (P : Program) : Bool := (List.range P.types.size).all fun t => match P.underlying t with | some (.slice e) => decide (0 < P.cellsOf e) | _ => true
theorem slices_of {P : Program} (h : slicesB P = true) {t e : TypeId} (ht : t < P.types.size) (hu : P.underlying t = some (.slice e)) : 0 < P.cellsOf e := by
  have := List.all_eq_true.1 h t (List.mem_range.2 ht)
  rw [hu] at this
  simpa using this
theorem trodAll_stays {W W' : World} (hl : laidOutB P = true) (hm : mapsRowed P = true) (hz : slicesB P = true) (hb : Below W.heap.size W W') {sp : Nat → Bool} : ∀ {ts : List TypeId} {vs : List Value} {ds : List (DataW H)} {ps : List MemPlace},
    DataW.TrodAll enc P W 0 (fun _ => true) true ts vs ds ps → (∀ t ∈ ts, t < P.types.size) → (∀ p ∈ ps, p.block < W.heap.size) → (∀ p ∈ ps, sp p.block = true) → DataW.TrodAll enc P W' 0 sp true ts vs ds ps
  | [], [], [], _, h, _, _, _ => h
  | t :: ts, v :: vs, d :: ds, ps, ⟨p, q, ⟨n, h1⟩, h2, e⟩, ht, hlt, hsp => by
    subst e
    refine ⟨p, q, ⟨n, ?_⟩, trodAll_stays hl hm hz hb h2 (fun t ht' => ht t (List.mem_cons_of_mem _ ht')) (fun x hx => hlt x (List.mem_append_right _ hx)) (fun x hx => hsp x (List.mem_append_right _ hx)), rfl⟩
    exact DataW.trod_stays (kids_rows hl hm) (fun ht hu => slices_of hz ht hu) (fun h => by cases h) (ht t (List.mem_cons_self ..)) h1 (fun x hx => hb.same (hlt x (List.mem_append_left _ hx))) (fun x hx => hsp x (List.mem_append_left _ hx))
/-- A law that has answered true, and written to nothing old. -/
theorem law_post {f : Func} {s : ChangeSpec} {apart fresh handsOn again : Bool} {W W' : World} {args : Array Value} {ds : List (DataW H)} {before : List MemPlace} (hl : laidOutB P = true) (hm : mapsRowed P = true) (hz : slicesB P = true) (hts : ∀ t ∈ f.params.toList, t < P.types.size)
    (hW : DataW.Whole enc P f.params.toList s.vars apart W args.toList ds [] before) (hv : s.vars = []) (hs : s.fn H ds = { results := [.lit (.bool true)], args := ds }) {b : TypeId} (hr : f.resultTypes = #[b]) (hub : P.underlying b = some .bool) (hb : Below W.heap.size W W') :
    s.post enc P f apart fresh handsOn again W args (.bool true) W' := by
  have hlt : ∀ p ∈ before, p.block < W.heap.size := fun p hp => hW.lt p hp
  have hW0 := hW
  obtain ⟨p, q, hA, hV, e, _, _⟩ := hW
  rw [hv] at hV
  have hq : q = [] := by cases hV; rfl
  subst hq
  rw [List.append_nil] at e
  subst e
  have hs' : s.fn H (ds ++ []) = { results := [.lit (.bool true)], args := ds } := by rw [List.append_nil]; exact hs
  refine post_below (pa := before) (pv := []) hW0 ?_ ?_ ?_ (by simp) hb ?_
  · intro b' sp hd
    rw [hs', hr]
    exact trodAll_mk1 (shut_bool hub true)
  · intro sp hsp
    rw [hs']
    exact trodAll_stays hl hm hz hb hA hts hlt hsp
  · intro sp _
    rw [hs', hv]
    rfl
  · intro j t r h1 h2
    rw [hr] at h1 h2
    have hj : j = 0 := by
      rcases j with _ | j
      · rfl
      · simp at h1
    subst hj
    simp at h1 h2
    subst h1
    have : r = .bool true := by
      have : (Value.bool true).resultList 1 = [.bool true] := rfl
      rw [this] at h2
      simpa using h2.symm
    subst this
    exact okWide_bool_mk hub true
end

/-! ### cells of their kinds -/
section
variable {P : Program} {w : World} {base : Nat}
theorem cell_int {u : TypeId} {k : IntKind} {v : Value} (hu : P.underlying u = some (.int k)) (h : Cell.okWide P w .any base u v) : ∃ x, v = .int k x ∧ k.has x := by
  unfold Cell.okWide at h
  rw [hu] at h
  cases v with
  | int k' n => obtain ⟨rfl, h⟩ := (show k' = k ∧ k.has n by simpa [Cell.ok, hu] using h); exact ⟨n, rfl, h⟩
  | _ => simp [Cell.ok, hu] at h
theorem cell_bool {u : TypeId} {v : Value} (hu : P.underlying u = some .bool) (h : Cell.okWide P w .any base u v) : ∃ x, v = .bool x := by
  unfold Cell.okWide at h
  rw [hu] at h
  cases v with
  | bool b => exact ⟨b, rfl⟩
  | _ => simp [Cell.ok, hu] at h
theorem cell_slice {u e : TypeId} {v : Value} (hu : P.underlying u = some (.slice e)) (h : Cell.okWide P w .any base u v) : ∃ s : Sl, v = .slice s.a s.n s.c := by
  unfold Cell.okWide at h
  rw [hu] at h
  cases v with
  | slice a n c => exact ⟨⟨a, n, c⟩, rfl⟩
  | _ => simp [Cell.ok, hu] at h
/-- Cells by a list of their types. -/
def CellsOk (P : Program) (w : World) (base : Nat) (ts : List TypeId) (cs : Array Value) : Prop := cs.size = ts.length ∧ ∀ (i : Nat) (v : Value), cs[i]? = some v → ∃ u, ts[i]? = some u ∧ Cell.okWide P w .any base u v
theorem cellsOk_of {t : TypeId} {v : Value} {ts : List TypeId} {d : TypeDesc} (hu : P.underlying t = some d) (hd : (match d with | .struct _ => true | .array _ _ => true | _ => false) = true) (ht : P.cellTypes P.depth t = some ts) (hn : ts.length = P.cellsOf t) (h0 : 0 < ts.length) (h : Value.okWide P w .any base t v) : ∃ cs, v = .agg cs ∧ CellsOk P w base ts cs := by
  unfold Value.okWide at h
  rw [hu] at h
  have key : (∃ cs, v = .agg cs ∧ cs.size = P.cellsOf t ∧ Row.okWide P w .any base t cs) → ∃ cs, v = .agg cs ∧ CellsOk P w base ts cs := by
    rintro ⟨cs, rfl, hs, ts', ht', _, hc⟩
    rw [ht] at ht'
    cases ht'
    refine ⟨cs, rfl, by omega, fun i v hv => ?_⟩
    obtain ⟨u, h1, h2⟩ := hc i v hv
    have hi : i < ts.length := by
      have := (Array.getElem?_eq_some_iff.1 hv).1
      omega
    rw [Nat.mod_eq_of_lt hi] at h1
    exact ⟨u, h1, h2⟩
  cases d <;> first | exact key h | cases hd
theorem cells_ints {ts : List TypeId} {cs : Array Value} (h : CellsOk P w base ts cs) (off n : Nat) {u : TypeId} {k : IntKind} (hu : P.underlying u = some (.int k)) (ht : (ts.drop off).take n = List.replicate n u) : ∃ a : Ints n, cs.extract off (off + n) = enc k a := by
  have hts : ∀ i, i < n → ts[off + i]? = some u := by
    intro i hi
    have : ((ts.drop off).take n)[i]? = some u := by rw [ht]; simp [hi]
    simpa [hi] using this
  have hval : ∀ i, i < n → ∃ x, cs[off + i]? = some (.int k x) := by
    intro i hi
    have hlt : off + i < cs.size := by
      rw [h.1]
      exact (List.getElem?_eq_some_iff.1 (hts i hi)).1
    obtain ⟨u', h1, h2⟩ := h.2 (off + i) cs[off + i] (Array.getElem?_eq_getElem hlt)
    rw [hts i hi] at h1
    cases h1
    obtain ⟨x, hx, _⟩ := cell_int hu h2
    exact ⟨x, by rw [Array.getElem?_eq_getElem hlt, hx]⟩
  have hget : ∀ i, ∃ x : Int, i < n → cs[off + i]? = some (.int k x) := by
    intro i
    by_cases hi : i < n
    · obtain ⟨x, hx⟩ := hval i hi; exact ⟨x, fun _ => hx⟩
    · exact ⟨0, fun h => absurd h hi⟩
  obtain ⟨f, hf⟩ := Classical.axiomOfChoice hget
  refine ⟨⟨(List.range n).map f, by simp⟩, ?_⟩
  apply Array.ext_getElem?
  intro i
  by_cases hi : i < n
  · have h1 : (cs.extract off (off + n))[i]? = cs[off + i]? := by
      have hlt : off + n ≤ cs.size := by
        rcases Nat.eq_zero_or_pos n with rfl | hp
        · omega
        · have := (Array.getElem?_eq_some_iff.1 (hf (n - 1) (by omega))).1
          omega
      rw [Array.getElem?_extract, if_pos (by omega)]
    rw [h1, hf i hi]
    simp [enc, hi]
  · rw [Array.getElem?_eq_none (by simp; omega), Array.getElem?_eq_none (by simp [enc]; omega)]
theorem cells_one {ts : List TypeId} {cs : Array Value} (h : CellsOk P w base ts cs) (off : Nat) {u : TypeId} (ht : ts[off]? = some u) : ∃ v, cs.extract off (off + 1) = #[v] ∧ Cell.okWide P w .any base u v := by
  have hlt : off < cs.size := by rw [h.1]; exact (List.getElem?_eq_some_iff.1 ht).1
  obtain ⟨u', h1, h2⟩ := h.2 off cs[off] (Array.getElem?_eq_getElem hlt)
  rw [ht] at h1
  cases h1
  refine ⟨cs[off], ?_, h2⟩
  apply Array.ext_getElem?
  intro i
  rw [Array.getElem?_extract]
  rcases i with _ | i
  · rw [if_pos (by omega)]; simp
  · rw [if_neg (by omega)]; simp
theorem ext_split {cs : Array Value} {a b c : Nat} (h1 : a ≤ b) (h2 : b ≤ c) : cs.extract a c = cs.extract a b ++ cs.extract b c := by
  rw [Array.extract_append_extract, Nat.min_eq_left h1, Nat.max_eq_right h2]
end
end Go.Sm
