/- The contracts of the disk's Queue, Room, Fuse, Restore and asked. -/
import Derived.Test.YtoleojljpaglhaaVdB
namespace Go.Proofs.Ytoleojljpaglhaa
open Go.RowKit Go.Maps
set_option maxRecDepth 20000
section
variable {w w' : World} {g S M : Nat} {qv : Value} {d : Vd.VD}
theorem Blk.ne_ {g g' : Nat} {t t' : TypeId} {cs cs' : Array Value} (h : Blk w g t cs) (h' : Blk w g' t' cs') (hne : t ≠ t') : g ≠ g' := by
  rintro rfl
  unfold Blk at h h'
  rw [h] at h'
  injection h' with h'
  injection h' with _ ht
  exact hne ht
theorem MapIs.ne_blk {n : Nat} {f : Int → Option Int} {t : TypeId} {cs : Array Value} (h : MapIs w M n f) (h' : Blk w g t cs) : M ≠ g := by
  rintro rfl
  obtain ⟨D, ⟨es, clock, hb, _⟩, _⟩ := h
  unfold Blk at h'
  rw [hb] at h'
  injection h' with h'
  cases h'
theorem own_ne_blk {base : Nat} {e t : TypeId} {size n : Nat} {v : Value} {xs : List Value} {cs : Array Value} (h : w.ownsRow base e size v n xs) (hg : Blk w g t cs) (hne : e ≠ t) : v.ownBlock ≠ some g := by
  rcases h.2 with ⟨rfl, _⟩ | ⟨g', cap, cur, rfl, _, hh, _⟩
  · simp [Value.ownBlock]
  · intro he
    have : g' = g := by simpa [Value.ownBlock] using he
    subst this
    exact Blk.ne_ (t := e) hh hg hne rfl
theorem own_ne_map {base : Nat} {e : TypeId} {size n m : Nat} {v : Value} {xs : List Value} {f : Int → Option Int} (h : w.ownsRow base e size v n xs) (hm : MapIs w M m f) : v.ownBlock ≠ some M := by
  rcases h.2 with ⟨rfl, _⟩ | ⟨g', cap, cur, rfl, _, hh, _⟩
  · simp [Value.ownBlock]
  · intro he
    have : g' = M := by simpa [Value.ownBlock] using he
    subst this
    exact hm.ne_blk (t := e) hh rfl
theorem DiskAt.gS (h : DiskAt w g S M qv d) : g ≠ S := h.self.ne_ h.secs (by decide)
theorem DiskAt.Mg (h : DiskAt w g S M qv d) : M ≠ g := h.last.ne_blk h.self
theorem DiskAt.MS (h : DiskAt w g S M qv d) : M ≠ S := h.last.ne_blk h.secs
theorem DiskAt.qg (h : DiskAt w g S M qv d) : qv.ownBlock ≠ some g := own_ne_blk h.queue h.self (by decide)
theorem DiskAt.qS (h : DiskAt w g S M qv d) : qv.ownBlock ≠ some S := own_ne_blk h.queue h.secs (by decide)
theorem DiskAt.qM (h : DiskAt w g S M qv d) : qv.ownBlock ≠ some M := own_ne_map h.queue h.last
/-- whatever leaves the disk's blocks alone leaves the disk -/
theorem ownsRow_only {fp : List Nat} {base : Nat} {e : TypeId} {size n : Nat} {v : Value} {xs : List Value} (h : w.ownsRow base e size v n xs) (ho : Only fp w w') (hn : ∀ k, v.ownBlock = some k → k ∉ fp) : w'.ownsRow base e size v n xs := by
  refine ⟨h.1, ?_⟩
  rcases h.2 with h1 | ⟨g', cap, cur, rfl, hb, hh, r⟩
  · exact .inl h1
  · have hlt : g' < w.heap.size := (Array.getElem?_eq_some_iff.1 hh).1
    exact .inr ⟨g', cap, cur, rfl, hb, (ho.block g' hlt (hn g' rfl)).trans hh, r⟩
theorem DiskAt.only {fp : List Nat} (h : DiskAt w g S M qv d) (ho : Only fp w w') (hn : ∀ k ∈ foot g S M qv, k ∉ fp) : DiskAt w' g S M qv d :=
  ⟨h.ok, h.secs1, h.self.only ho (hn g (by simp [foot])), ⟨h.secs.only ho (hn S (by simp [foot])), h.secsG.2⟩, ownsRow_only h.queue ho (fun k hk => hn k (by simp [foot, hk])), h.last.only ho (hn M (by simp [foot]))⟩
/-- a field of the disk is written -/
theorem DiskAt.store (h : DiskAt w g S M qv d) (j : Nat) (u : Value) (d' : Vd.VD) (hok : d'.ok) (hs : d'.secs = d.secs) (hq : d'.q = d.q) (he : (dcells S M qv d).setIfInBounds j u = dcells S M qv d') (hgh : d'.sc = d.sc ∧ d'.sr = d.sr := by exact ⟨rfl, rfl⟩) :
    DiskAt (w.setCell ⟨g, j, none⟩ u) g S M qv d' := by
  have ho : Only [g] w (w.setCell ⟨g, j, none⟩ u) := (Only.refl [g] w).setCell (.inl (by simp)) u
  refine ⟨hok, by rw [hs]; exact h.secs1, (h.self.set_ j u).eq_ he, ?_, ?_, ?_⟩
  · rw [hs, hgh.1, hgh.2]; exact ⟨h.secs.only ho (by simpa using h.gS.symm), h.secsG.2⟩
  · rw [hq]; exact ownsRow_only h.queue ho (fun k hk => by
      simp only [List.mem_singleton]
      rintro rfl
      exact h.qg hk)
  · rw [hq]; exact h.last.only ho (by simpa using h.Mg)
/-- the disk's own cells are written -/
theorem DiskAt.self' (h : DiskAt w g S M qv d) (d' : Vd.VD) (hok : d'.ok) (hs : d'.secs = d.secs) (hq : d'.q = d.q) (ho : Only [g] w w') (hb : Blk w' g 71 (dcells S M qv d')) (hgh : d'.sc = d.sc ∧ d'.sr = d.sr := by exact ⟨rfl, rfl⟩) : DiskAt w' g S M qv d' := by
  refine ⟨hok, by rw [hs]; exact h.secs1, hb, ?_, ?_, ?_⟩
  · rw [hs, hgh.1, hgh.2]; exact ⟨h.secs.only ho (by simpa using h.gS.symm), h.secsG.2⟩
  · rw [hq]; exact ownsRow_only h.queue ho (fun k hk => by
      simp only [List.mem_singleton]
      rintro rfl
      exact h.qg hk)
  · rw [hq]; exact h.last.only ho (by simpa using h.Mg)
theorem Only.own (h : Only [g] w w') (j : Nat) (u : Value) : Only [g] w (w'.setCell ⟨g, j, none⟩ u) := h.setCell (.inl (by simp)) u
end
end Go.Proofs.Ytoleojljpaglhaa
