import Derived.Test.YtmddgimadlmacaaDoorChange
namespace Go.Proofs.YtmddgimadlmacaaDoor
open Go.RowKit Garner

abbrev nmS (s : Bs) : ByteArray := ⟨s.toArray⟩
def noFile : FileE := ⟨none, 0, [], 0⟩
def Files.get (es : Files) (nm : Bs) : FileE := (aget nm es).getD noFile
theorem aget_al (nm : Bs) : ∀ es : Files, aget nm es.al = (aget nm es).map FileE.v
  | [] => rfl
  | (k, e) :: r => by
    have ih := aget_al nm r
    unfold Files.al at *
    simp only [List.map_cons, aget]
    split
    · rfl
    · exact ih
theorem aput_al (nm : Bs) (e : FileE) : ∀ es : Files, Files.al (aput nm e es) = aput nm e.v es.al
  | [] => rfl
  | (k, x) :: r => by
    have ih := aput_al nm e r
    unfold Files.al at *
    simp only [List.map_cons, aput]
    split
    · rfl
    · simp only [List.map_cons, ih]
theorem adel_al (nm : Bs) : ∀ es : Files, Files.al (adel nm es) = adel nm es.al
  | [] => rfl
  | (k, x) :: r => by
    have ih := adel_al nm r
    unfold Files.al at *
    simp only [List.map_cons, adel]
    split
    · rfl
    · simp only [List.map_cons, ih]
section
variable {κ ν : Type} [DecidableEq κ]
theorem mem_aput {a : κ} {v : ν} {p : κ × ν} : ∀ {l : List (κ × ν)}, p ∈ aput a v l → p = (a, v) ∨ p ∈ l
  | [], h => by simp [aput] at h; exact Or.inl h
  | (b, u) :: r, h => by
    unfold aput at h
    split at h
    · rename_i e
      rcases List.mem_cons.1 h with h | h
      · subst e; exact Or.inl h
      · exact Or.inr (List.mem_cons_of_mem _ h)
    · rcases List.mem_cons.1 h with h | h
      · exact Or.inr (h ▸ List.mem_cons_self ..)
      · exact (mem_aput h).imp id (List.mem_cons_of_mem _)
theorem mem_adel {a : κ} {p : κ × ν} : ∀ {l : List (κ × ν)}, p ∈ adel a l → p ∈ l
  | (b, u) :: r, h => by
    unfold adel at h
    split at h
    · exact List.mem_cons_of_mem _ h
    · rcases List.mem_cons.1 h with h | h
      · exact h ▸ List.mem_cons_self ..
      · exact List.mem_cons_of_mem _ (mem_adel h)
theorem aget_mem {a : κ} {v : ν} : ∀ {l : List (κ × ν)}, aget a l = some v → (a, v) ∈ l
  | (b, u) :: r, h => by
    unfold aget at h
    split at h
    · rename_i e
      injection h with h
      subst e; subst h; exact List.mem_cons_self ..
    · exact List.mem_cons_of_mem _ (aget_mem h)
theorem keys_aput {a : κ} {v : ν} : ∀ {l : List (κ × ν)} {k : κ}, k ∈ (aput a v l).map (·.1) → k = a ∨ k ∈ l.map (·.1) := by
  intro l k h
  obtain ⟨p, hp, rfl⟩ := List.mem_map.1 h
  rcases mem_aput hp with rfl | hp
  · exact Or.inl rfl
  · exact Or.inr (List.mem_map.2 ⟨p, hp, rfl⟩)
theorem nodup_aput {a : κ} {v : ν} : ∀ {l : List (κ × ν)}, (l.map (·.1)).Nodup → ((aput a v l).map (·.1)).Nodup
  | [], _ => by simp [aput]
  | (b, u) :: r, h => by
    obtain ⟨h1, h2⟩ := List.nodup_cons.1 h
    unfold aput
    split
    · exact h
    · rename_i hne
      refine List.nodup_cons.2 ⟨fun hm => ?_, nodup_aput h2⟩
      rcases keys_aput hm with e | e
      · exact hne e.symm
      · exact h1 e
theorem nodup_adel {a : κ} : ∀ {l : List (κ × ν)}, (l.map (·.1)).Nodup → ((adel a l).map (·.1)).Nodup
  | [], _ => by simp [adel]
  | (b, u) :: r, h => by
    obtain ⟨h1, h2⟩ := List.nodup_cons.1 h
    unfold adel
    split
    · exact h2
    · refine List.nodup_cons.2 ⟨fun hm => ?_, nodup_adel h2⟩
      obtain ⟨p, hp, hpe⟩ := List.mem_map.1 hm
      exact h1 (List.mem_map.2 ⟨p, mem_adel hp, hpe⟩)
end
theorem noFile_ok (O : Nat → Prop) (w : World) : FileOk O w noFile := ⟨Row.none_, fun h => absurd h (by simp [noFile]), by simp [noFile], by simp [noFile], by simp [noFile]⟩
theorem DiskIs.get {w : World} {O : Nat → Prop} {g mp : Nat} {es : Files} {fl dn : Bool} {left : Int} (h : DiskIs O w g mp es fl dn left) (nm : Bs) : FileOk O w (es.get nm) := by
  unfold Files.get
  cases he : aget nm es with
  | none => exact noFile_ok O w
  | some e => exact h.files _ (aget_mem he)
theorem DiskIs.look {w : World} {O : Nat → Prop} {g mp : Nat} {es : Files} {fl dn : Bool} {left : Int} (h : DiskIs O w g mp es fl dn left) (nm : Bs) :
    (Instr.lookup 74 (.map (some mp)) (.string (nmS nm)) false).run Tryd.prog w = .ok (.agg #[.slice (es.get nm).A (es.get nm).data.length (es.get nm).c, .int .i64 (es.get nm).synced]) w := by
  have := run_look (strKeys Tryd.underlying9) Tryd.underlying74 h.map (zeroFile _) nm false
  rw [this]
  rw [aget_al]
  unfold Files.get
  cases aget nm es <;> rfl
theorem DiskIs.look2 {w : World} {O : Nat → Prop} {g mp : Nat} {es : Files} {fl dn : Bool} {left : Int} (h : DiskIs O w g mp es fl dn left) (nm : Bs) :
    (Instr.lookup 74 (.map (some mp)) (.string (nmS nm)) true).run Tryd.prog w = .ok (.tuple #[.agg #[.slice (es.get nm).A (es.get nm).data.length (es.get nm).c, .int .i64 (es.get nm).synced], .bool (aget nm es).isSome]) w := by
  have := run_look (strKeys Tryd.underlying9) Tryd.underlying74 h.map (zeroFile _) nm true
  rw [this]
  rw [aget_al]
  unfold Files.get
  cases aget nm es <;> rfl
/-- a file laid -/
theorem DiskIs.put {w : World} {O : Nat → Prop} {g mp : Nat} {es : Files} {fl dn : Bool} {left : Int} (h : DiskIs O w g mp es fl dn left) (nm : Bs) (e : FileE) (he : FileOk O w e) :
    ∃ w', (Instr.mapUpdate 74 (.map (some mp)) (.string (nmS nm)) e.v).run Tryd.prog w = .ok () w' ∧ DiskIs O w' g mp (aput nm e es) fl dn left ∧ But [mp] w w' := by
  obtain ⟨w', hrun, hm, hg, _⟩ := run_put (strKeys Tryd.underlying9) Tryd.underlying74 h.map nm e.v
  have hb : But [mp] w w' := But.grown hg (fun k hk => by simpa using hk.symm)
  refine ⟨w', hrun, ⟨h.blk.but hb (by simp only [List.mem_singleton]; exact h.ne), by rw [aput_al]; exact hm, fun p hp => ?_, nodup_aput h.nodup, h.lo, h.hi⟩, hb⟩
  rcases mem_aput hp with rfl | hp
  · exact he.keep h.blk h.map hb (fun s hs => Or.inr (Or.inl (by simpa using hs)))
  · exact h.keepF hb (fun s hs => Or.inr (Or.inl (by simpa using hs))) p hp
theorem DiskIs.del {w : World} {O : Nat → Prop} {g mp : Nat} {es : Files} {fl dn : Bool} {left : Int} (h : DiskIs O w g mp es fl dn left) (nm : Bs) (ts : Array TypeId) (ty : TypeId) (hts : ts[0]? = some 74) :
    ∃ w', (Builtin.delete_ ts ty #[.map (some mp), .string (nmS nm)]).run Tryd.prog w = .ok (.tuple #[]) w' ∧ DiskIs O w' g mp (adel nm es) fl dn left ∧ But [mp] w w' := by
  obtain ⟨w', hrun, hm, hg, _⟩ := run_del (strKeys Tryd.underlying9) Tryd.underlying74 h.map nm ts ty hts
  have hb : But [mp] w w' := But.grown hg (fun k hk => by simpa using hk.symm)
  refine ⟨w', hrun, ⟨h.blk.but hb (by simp only [List.mem_singleton]; exact h.ne), by rw [adel_al]; exact hm, fun p hp => ?_, nodup_adel h.nodup, h.lo, h.hi⟩, hb⟩
  exact h.keepF hb (fun s hs => Or.inr (Or.inl (by simpa using hs))) p (mem_adel hp)
end Go.Proofs.YtmddgimadlmacaaDoor
