/- The operations of the abstract machine are the model's. -/
import Derived.Test.YtiokdncglbfmlaaGreatDoorMOp
namespace Go.Am
open Go
theorem andb {a b : Bool} (h : (a && b) = true) : a = true ∧ b = true := by simpa using h
theorem beq_eq {a b : Nat} (h : a.beq b = true) : a = b := Nat.eq_of_beq_eq_true h
theorem nbeq_ne {a b : Nat} (h : (!(a.beq b)) = true) : a ≠ b := by
  rintro rfl
  rw [Nat.beq_refl] at h
  cases h
theorem ble_le {a b : Nat} (h : a.ble b = true) : a ≤ b := Nat.le_of_ble_eq_true h
theorem blt_lt {a b : Nat} (h : a.blt b = true) : a < b := Nat.le_of_ble_eq_true h
theorem bif_some {α : Type} {c : Bool} {x y : Option α} {r : α} (h : (bif c then x else y) = some r) : (c = true ∧ x = some r) ∨ (c = false ∧ y = some r) := by
  cases c <;> simp_all
theorem bif_none {α : Type} {c : Bool} {x : Option α} {r : α} (h : (bif c then x else none) = some r) : c = true ∧ x = some r := by
  cases c <;> simp_all
theorem bif_none' {α : Type} {c : Bool} {x : Option α} {r : α} (h : (bif c then none else x) = some r) : c = false ∧ x = some r := by
  cases c <;> simp_all
def renN (β : Beta) : AN → Next → Prop
  | .val v, nx => ∃ v', nx = .value v' ∧ ren β v = some v'
  | .skip, nx => nx = .skip
  | .enter f args, nx => ∃ args', nx = .enter f ⟨args'⟩ ∧ renL β args = some args'
section
variable {P : Program} {β : Beta} {s : St} {w : World}
theorem mzero_sound {t : TypeId} {z : Value} (h : mzero P t = some z) (w : World) : ∃ it, P.info? t = some it ∧ it.zero = some z ∧ ground z = true ∧ (zeroValue t).run P w = .ok z w := by
  unfold mzero at h
  split at h
  · rename_i it hi
    split at h
    · rename_i z' hz
      obtain ⟨hg, h⟩ := bif_none h
      cases h
      exact ⟨it, hi, hz, hg, run_zero hi hz w⟩
    · cases h
  · cases h
theorem mpart_sound {t : TypeId} {l : List Value} {c : Array Value} {off : Nat} {v : Value} (h : mpart P t l off = some v) {l' : List Value} (hl : renL β l = some l') (hp : l' <+: c.toList) (w : World) :
    ∃ v', ren β v = some v' ∧ (part t c off).run P w = .ok v' w := by
  unfold mpart at h
  split at h
  · rename_i ti d hi hd
    obtain ⟨r, hr⟩ := hp
    rcases bif_some h with ⟨ha, h⟩ | ⟨ha, h⟩
    · obtain ⟨hn, h⟩ := bif_none h
      cases h
      obtain ⟨hn, h0⟩ := andb hn
      have h0 := nbeq_ne h0
      have hn := beq_eq hn
      have e := renL_take ti.size (renL_drop off hl)
      have hlen := renL_length hl
      simp only [List.length_take, List.length_drop] at hn
      refine ⟨.agg ⟨(l'.drop off).take ti.size⟩, by simp [ren, renA, e], ?_⟩
      simp only [part, Sem.run_bind, run_agg hd, Result.andThen_ok, ha, if_true, run_size hi, Sem.run_pure]
      congr 2
      apply Array.ext'
      simp only [Array.toList_extract, List.extract_eq_take_drop, ← hr]
      rw [List.drop_append_of_le_length (by omega), List.take_append_of_le_length (by simp; omega)]
      congr 1
      omega
    · obtain ⟨v', h1, h2⟩ := renL_get hl h
      refine ⟨v', h2, ?_⟩
      have hc : c[off]? = some v' := by
        have : c.toList[off]? = some v' := by
          rw [← hr]
          obtain ⟨hlt, _⟩ := List.getElem?_eq_some_iff.1 h1
          rw [List.getElem?_append_left hlt]; exact h1
        simpa using this
      simp only [part, Sem.run_bind, run_agg hd, Result.andThen_ok, ha, Bool.false_eq_true, if_false, hc, Sem.run_pure]
  · cases h
theorem part_load {t : TypeId} {c : Array Value} {off : Nat} {v : Value} {b : Nat} {e : TypeId} {fr : Nat × Nat} {ti : TypeInfo} (hb : w.heap[b]? = some (.cells c e fr)) (hi : P.info? t = some ti) {d : TypeDesc} (hd : P.underlying t = some d)
    (hn : aggD d = true → off + ti.size ≤ c.size) (h : (part t c off).run P w = .ok v w) : (loadVar t ⟨b, off, none⟩).run P w = .ok v w := by
  cases ha : aggD d with
  | true =>
    rw [run_loadVar_agg hb hi hd ha off (hn ha)]
    simp only [part, Sem.run_bind, run_agg hd, Result.andThen_ok, ha, if_true, run_size hi, Sem.run_pure] at h
    exact h
  | false =>
    simp only [part, Sem.run_bind, run_agg hd, Result.andThen_ok, ha, Bool.false_eq_true, if_false] at h
    cases hc : c[off]? with
    | none => rw [hc] at h; cases h
    | some u =>
      rw [hc] at h
      rw [run_loadVar_one hb hd ha off hc]
      exact h
theorem mload_sound {t : TypeId} {a v a' : Value} (h : mload P t a s = some v) (ha : ren β a = some a') (hR : Rel P β s w) : ∃ v', ren β v = some v' ∧ (Instr.loadAt t a').run P w = .ok v' w := by
  unfold mload at h
  split at h
  · rename_i i o
    split at h
    · rename_i l e hl
      obtain ⟨b, K, c, lo, hi, h1, h2, h3, h4, l', h5, h6⟩ := hR.fits i _ hl
      simp only [ren, h1, Option.map_some, Option.some.injEq] at ha
      subst ha
      obtain ⟨v', e1, e2⟩ := mpart_sound h h5 h6 w
      refine ⟨v', e1, ?_⟩
      have hlen := renL_length h5
      have hpl := h6.length_le
      have hh := h
      unfold mpart at hh
      split at hh
      · rename_i ti d hi hd
        simp only [Instr.loadAt, Instr.sureAddr, Sem.run_bind, Sem.run_pure, Result.andThen_ok]
        refine part_load h2 hi hd ?_ e2
        intro hagg
        rw [hagg] at hh
        obtain ⟨hn, _⟩ := bif_none hh
        obtain ⟨hn, h0⟩ := andb hn
        have h0 := nbeq_ne h0
        have hn := beq_eq hn
        simp only [List.length_take, List.length_drop] at hn
        simp only [Array.length_toList] at hpl
        omega
      · cases hh
    · cases h
  · cases h

theorem one_ren {v v' : Value} (h : ren β v = some v') (ho : oneC v = true) : v'.oneCell' = true := by
  cases v with
  | agg a => cases ho
  | tuple a => cases ho
  | pointer a =>
    rcases a with _ | ⟨b, o, _ | s⟩ <;> simp only [ren, Option.map_eq_some_iff, Option.some.injEq, reduceCtorEq] at h
    · subst h; rfl
    · obtain ⟨p, _, rfl⟩ := h; rfl
  | slice a n c =>
    rcases a with _ | ⟨b, o, _ | s⟩ <;> simp only [ren, Option.map_eq_some_iff, Option.bind_eq_some_iff, Option.some.injEq, reduceCtorEq] at h
    · subst h; rfl
    · obtain ⟨p, _, q, _, rfl⟩ := h; rfl
  | map r =>
    cases r <;> simp only [ren, Option.map_eq_some_iff, Option.some.injEq] at h
    · subst h; rfl
    · obtain ⟨p, _, rfl⟩ := h; rfl
  | chan r =>
    cases r <;> simp only [ren, Option.some.injEq, reduceCtorEq] at h
    subst h; rfl
  | func f a c =>
    cases f <;> simp only [ren, Option.map_eq_some_iff, Option.bind_eq_some_iff, reduceCtorEq] at h <;> (obtain ⟨p, _, q, _, rfl⟩ := h; rfl)
  | iface t x =>
    simp only [ren, Option.map_eq_some_iff] at h
    obtain ⟨p, _, rfl⟩ := h; rfl
  | _ => simp only [ren, Option.some.injEq] at h; subst h; rfl
theorem one_renL : ∀ {l l' : List Value}, renL β l = some l' → l.all oneC = true → ∀ u ∈ l', u.oneCell' = true
  | [], l', h, _, u, hu => by simp only [renL, Option.some.injEq] at h; subst h; cases hu
  | v :: l, l', h, ho, u, hu => by
    simp only [renL, Option.bind_eq_some_iff, Option.map_eq_some_iff] at h
    obtain ⟨x, e1, y, e2, rfl⟩ := h
    simp only [List.all_cons, Bool.and_eq_true] at ho
    rcases List.mem_cons.1 hu with rfl | hu
    · exact one_ren e1 ho.1
    · exact one_renL e2 ho.2 u hu
theorem splL_length {l c : List Value} {o : Nat} (h : o + c.length ≤ l.length) : (splL l o c).length = l.length := by
  simp [splL]; omega
theorem renL_spl {l l' c c' : List Value} (o : Nat) (h : renL β l = some l') (k : renL β c = some c') : renL β (splL l o c) = some (splL l' o c') := by
  have e := renL_length k
  unfold splL
  rw [e]
  exact renL_append (renL_append (renL_take o h) k) (renL_drop _ h)
theorem spl_prefix {l' c' : List Value} {c : Array Value} {o : Nat} (hp : l' <+: c.toList) (h : o + c'.length ≤ l'.length) : splL l' o c' <+: (spl c o c').toList := by
  obtain ⟨r, hr⟩ := hp
  refine ⟨r, ?_⟩
  unfold splL spl
  simp only [← hr]
  rw [List.take_append_of_le_length (by omega), List.drop_append_of_le_length (by omega)]
  simp
theorem cells_put {i : Nat} {l new l' new' : List Value} {e : TypeId} {b K o : Nat} {c : Array Value} {lo hi : Nat} (hR : Rel P β s w) (hl : s.h.get i = some (.cells l e)) (h1 : β i = some (b, K)) (h2 : w.heap[b]? = some (.cells c e (lo, hi)))
    (h3 : c.size = K * sz P e) (h4 : ∀ o, o < c.size → ¬ (lo ≤ o ∧ o < hi)) (h5 : renL β l = some l') (h6 : l' <+: c.toList) (h7 : renL β new = some new') (h8 : o + new.length ≤ l.length) :
    Step P β β s ⟨s.h.set i (some (.cells (splL l o new) e)), s.c⟩ w (World.withBlock w b (.cells (spl c o new') e (lo, hi))) := by
  have hb := (Array.getElem?_eq_some_iff.1 h2).1
  have e1 := renL_length h5
  have e2 := renL_length h7
  have hpl := h6.length_le
  simp only [Array.length_toList] at hpl
  refine step_put hR hl h1 (fun k hk => withBlock_ne _ hk) (withBlock_size _ _ _) rfl rfl rfl ⟨b, K, spl c o new', lo, hi, h1, withBlock_get _ hb, ?_, ?_, splL l' o new', renL_spl o h5 h7, spl_prefix h6 (by omega)⟩
  · rw [size_spl (by omega)]; exact h3
  · rw [size_spl (by omega)]; exact h4
theorem mstore_sound {t : TypeId} {a v a' v' : Value} {s' : St} (h : mstore P t a v s = some s') (ha : ren β a = some a') (hv : ren β v = some v') (hR : Rel P β s w) :
    ∃ w', (Instr.storeAt t a' v').run P w = .ok () w' ∧ Step P β β s s' w w' := by
  unfold mstore at h
  split at h
  · rename_i i o
    split at h
    · rename_i l e ti hl hti
      obtain ⟨b, K, c, lo, hi, h1, h2, h3, h4, l', h5, h6⟩ := hR.fits i _ hl
      obtain ⟨hn, h⟩ := bif_none h
      cases h
      obtain ⟨hn, hlen⟩ := andb hn
      obtain ⟨hsz, hone⟩ := andb hn
      have hsz := beq_eq hsz
      have hlen := ble_le hlen
      simp only [ren, h1, Option.map_some, Option.some.injEq] at ha
      subst ha
      have hc := ren_cells hv
      have e1 := renL_length h5
      have e2 := renL_length hc
      have hpl := h6.length_le
      simp only [Array.length_toList] at hpl
      refine ⟨_, ?_, cells_put (o := o) hR hl h1 h2 h3 h4 h5 h6 hc (by omega)⟩
      simp only [Instr.storeAt, Instr.sureAddr, Sem.run_bind, Sem.run_pure, Result.andThen_ok]
      have e3 : v'.cells.size = ti.size := by
        have : v'.cells.toList.length = v'.cells.size := rfl
        omega
      exact run_storeVar_at h2 h4 hti e3 o (by omega) (one_renL hc hone)
    · cases h
  · cases h
theorem fits_new {cells cells' : List Value} {e : TypeId} {K : Nat} {junk : List Value} (hl : renL β cells = some cells') (hf : β s.c = none) (hz : (cells' ++ junk).length = K * sz P e) :
    Step P β (β.put s.c (w.heap.size, K)) s (mnew e cells s) w (w.alloc (.cells ⟨cells' ++ junk⟩ e)) ∨ ¬ Rel P β s w := by
  by_cases hR : Rel P β s w
  · left
    refine step_new (K := K) hR hf _ rfl rfl rfl rfl ⟨w.heap.size, K, ⟨cells' ++ junk⟩, 0, 0, beta_put_eq _ _ _, ?_, hz, ?_, cells', renL_mono (beta_put_le hf _) hl, List.prefix_append _ _⟩
    · show (w.heap.push _)[w.heap.size]? = _
      rw [Array.getElem?_push, if_pos rfl]
    · intro o _ h; omega
  · exact .inr hR
theorem cells_new {cells cells' : List Value} {e : TypeId} {K : Nat} {junk : List Value} (hR : Rel P β s w) (hl : renL β cells = some cells') (hf : β s.c = none) (hz : (cells' ++ junk).length = K * sz P e) :
    Step P β (β.put s.c (w.heap.size, K)) s (mnew e cells s) w (w.alloc (.cells ⟨cells' ++ junk⟩ e)) := (fits_new hl hf hz).resolve_right (fun h => h hR)
theorem malloc_sound {e : TypeId} {v v' x : Value} {s' : St} (h : malloc P e v s = some (x, s')) (hv : ren β v = some v') (hR : Rel P β s w) (hf : Fresh β s.c s'.c) :
    ∃ β' x' w', ren β' x = some x' ∧ (do pure (.pointer (some (← newVar e v'))) : Sem Value).run P w = .ok x' w' ∧ Step P β β' s s' w w' := by
  unfold malloc at h
  split at h
  · rename_i ie hi
    obtain ⟨hn, h⟩ := bif_none h
    cases h
    have hn := beq_eq hn
    have hc := ren_cells hv
    have e2 := renL_length hc
    have hfc : β s.c = none := hf s.c (Nat.le_refl _) (by simp [mnew, St.new])
    have hst := cells_new (K := 1) (junk := []) (e := e) hR hc hfc (by rw [List.append_nil, e2, hn]; simp [sz, hi])
    refine ⟨_, .pointer (some ⟨w.heap.size, 0, none⟩), _, ?_, ?_, hst⟩
    · simp [ren, Beta.put]
    · simp [newVar, newRow]
  · cases h
end
end Go.Am
