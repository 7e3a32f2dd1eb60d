/- A store at the key at hand in a round of 'range' over a map. -/
import Derived.Test.YtncdkbhkjamdpaaD7
import Derived.Maps.RangeWalk
namespace Go.Proofs.Ytncdkbhkjamdpaa
open Go.RowKit Go.Maps
open Go.MapKept Go.ChangeMaps
open Go.WideElems (Fit rd rg pl rd_val rd_key rg_of rd_mk other_key)

section
variable {H : Type} {P : Program} {k t e : TypeId} {R : Value → Option (DataW H × List MemPlace)} {w : World} {b r n : Nat} {D : DataW H} {left : Lit → Bool} {cnt : Nat}
theorem ranges_put (h : w.ranges P k R b r n D left cnt) (K : Keyed P k) (ht : P.underlying t = some (.map k e)) {key val : Value} {kl : Lit} {d : DataW H} {ps : List MemPlace} (hkey : keyOf P k key = some kl) (hv : R val = some (d, ps))
    (hnl : left kl = false) (hin : has D kl = true) :
    ∃ w', (Instr.mapUpdate t (.map (some b)) key val).run P w = .ok () w' ∧ w'.ranges P k R b r n (D.put kl d) left cnt ∧ w.mapTurned w' b := by
  have hne := h.ne
  obtain ⟨es, clock, since, seen, c0, hb, F, hs, rfl, hr, hold, rfl, hl1, hl2, hsc, hsk⟩ := h
  rcases K.find w hkey es.toList F.keys with ⟨_, h2⟩ | ⟨j, e0, h1, h2, h3⟩
  · exfalso
    rw [has_eq, List.any_eq_true] at hin
    obtain ⟨p, hp, hpk⟩ := hin
    obtain ⟨x, hx, rfl⟩ := List.mem_map.1 (mem_sorted.1 hp)
    obtain ⟨y, hy⟩ := F.reads x hx
    have e1 := WideAt.sameKey_eq hpk
    rw [rg_of hy] at e1
    exact h2 x hx (K.inj (e1 ▸ rd_key hy) hkey)
  · have hj : es[j]? = some e0 := by simpa using h2
    have hjl : j < es.toList.length := (List.getElem?_eq_some_iff.1 h2).1
    have he0 : e0 ∈ es.toList := List.mem_of_getElem? h2
    have hkeyf : ∀ e', es[j]? = some e' → ({ e' with key := key, val := val } : MapEntry).key = e'.key := fun e' he' => by rw [hj] at he'; cases he'; exact h3.symm
    have hlist : (es.modify j (fun e' => { e' with key := key, val := val })).toList = es.toList.set j { e0 with key := key, val := val } := by rw [Array.toList_modify, modify_eq_set _ _ _ _ h2]
    have who : ∀ x ∈ es.toList.set j { e0 with key := key, val := val }, x = { e0 with key := key, val := val } ∨ (x ∈ es.toList ∧ x.key ≠ key) := by
      intro x hx
      obtain ⟨i, hi, ex⟩ := List.getElem_of_mem hx
      rw [List.getElem_set] at ex
      split at ex
      · exact Or.inl ex.symm
      · rename_i hne'
        have hi' : i < es.toList.length := by simpa using hi
        refine Or.inr ⟨ex ▸ List.getElem_mem hi', ?_⟩
        rw [← h3]
        exact other_key F h2 (by rw [List.getElem?_eq_getElem hi', ex]) (fun e1 => hne' e1.symm)
    obtain ⟨y0, hy0⟩ := F.reads e0 he0
    have hk0 : (rg P k R e0).1 = kl := by
      have := rd_key hy0
      rw [h3, hkey] at this
      rw [rg_of hy0, Option.some.inj this]
    have hnew : (rg P k R ({ e0 with key := key, val := val } : MapEntry)).1 = kl := by rw [rg_of (rd_mk hkey hv)]
    have hrun : (Instr.mapUpdate t (.map (some b)) key val).run P w = .ok () (setBlock w b (.map (es.modify j (fun e' => { e' with key := key, val := val })) clock)) := by
      simp [Instr.mapUpdate, run_underlying ht, MapKept.run_getObj_map hb, K.check w false hkey, h1, hj, h3, K.stays w hkey, MapKept.run_setObj_map _ hb, Result.andThen, setBlock]
    have hst : Stamped (es.modify j (fun e' => { e' with key := key, val := val })) clock := stamped_modify F.stamped _ _ (fun _ _ => rfl) (fun e' _ he' => hkeyf e' he')
    have hsize : (es.modify j (fun e' => { e' with key := key, val := val })).size = es.size := by simp
    obtain ⟨es', hes⟩ : ∃ es', es.modify j (fun e' => { e' with key := key, val := val }) = es' := ⟨_, rfl⟩
    rw [hes] at hrun hlist hst hsize
    refine ⟨_, hrun, ⟨es', clock, since, seen, c0, heap_setBlock_same hb _, ⟨by rw [hsize]; exact F.size, hst, ?_⟩, by rw [hsize]; exact hs, ?_, (heap_setBlock_other hb _ hne).trans hr, ?_, ?_, ?_, ?_, hsc, hsk⟩, ⟨es, clock, es', clock, hb, rfl⟩⟩
    · intro x hx
      rw [hlist] at hx
      rcases who x hx with rfl | ⟨hx', _⟩
      · exact ⟨_, rd_mk hkey hv⟩
      · exact F.reads x hx'
    · rw [DataW.put_eq]
      congr 1
      refine (Maps.sorted_put K.one ⟨key, hkey⟩ (Maps.fit_keys F) (Maps.fit_apart K F) ?_).symm
      rw [Maps.filter_one K F hkey h2 h3, hlist, List.map_set, rg_of (rd_mk hkey hv)]
      exact set_perm _ _ (by simpa using hjl) _
    · intro x hx
      rw [hlist] at hx
      rcases who x hx with rfl | ⟨hx', _⟩
      · exact hold e0 he0
      · exact hold x hx'
    · have e1 : ∀ a : Array MapEntry, (leftOf a seen).size = ((a.toList.map (·.born)).filter fun q => !seen.contains q).length := fun a => by
        unfold leftOf
        rw [List.filter_map, List.length_map, ← Array.length_toList, Array.toList_filter]
        rfl
      rw [e1, e1, hlist, List.map_set]
      congr 2
      refine List.ext_getElem? fun i => ?_
      rw [List.getElem?_set]
      split
      · rename_i hi
        subst hi
        rw [if_pos (by simpa using hjl), List.getElem?_map, h2]
        rfl
      · rfl
    · intro x hx
      rw [hlist] at hx
      rcases who x hx with rfl | ⟨hx', _⟩
      · rw [hnew, hnl, ← hl1 e0 he0, hk0, hnl]
      · exact hl1 x hx'
    · intro kl' hkl'
      obtain ⟨x, hx, rfl⟩ := hl2 kl' hkl'
      refine ⟨x, ?_, rfl⟩
      rw [hlist]
      obtain ⟨i, hi⟩ := List.getElem?_of_mem hx
      refine List.mem_of_getElem? (i := i) ?_
      rw [List.getElem?_set]
      split
      · rename_i hi2
        subst hi2
        rw [h2] at hi
        cases hi
        rw [hk0, hnl] at hkl'
        cases hkl'
      · exact hi
end
end Go.Proofs.Ytncdkbhkjamdpaa
