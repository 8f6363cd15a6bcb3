/- The plain law of flow's walk: what is seen, by which step each node is come to. No program in sight. -/
import Derived.Test.YtgnmbmlpfjlbiaaPipes
namespace Go.Proofs.Ytgnmbmlpfjlbiaa
set_option linter.unusedVariables false
def fwdPart (p : PipeV) (f : Int) : List ArcV := if f < p.room then [⟨p.fr, p.to, 0⟩] else []
def backPart (p : PipeV) (f : Int) : List ArcV := if 0 < f then [⟨p.to, p.fr, 0⟩] else []
theorem resOne_parts (p : PipeV) (f : Int) : resOne p f = fwdPart p f ++ backPart p f := rfl
/-- How node j is come to: by pipe (by j).1, along or back, from a node that is seen and stands ahead. -/
def Step (ps : List PipeV) (x : Nat → Int) (seen : Nat → Bool) (rank : Nat → Nat) (st : Int × Bool) (j : Nat) : Prop :=
  ∃ k : Nat, ∃ h : k < ps.length, st.1 = (k : Int) ∧
    ((st.2 = false ∧ ps[k].to = (j : Int) ∧ x k < ps[k].room ∧ seen ps[k].fr.toNat = true ∧ rank ps[k].fr.toNat < rank j) ∨
     (st.2 = true ∧ ps[k].fr = (j : Int) ∧ 0 < x k ∧ seen ps[k].to.toNat = true ∧ rank ps[k].to.toNat < rank j))
structure Tree (N : Nat) (ps : List PipeV) (x : Nat → Int) (s : Int) (seen : Nat → Bool) (by_ : Nat → Int × Bool) (rank : Nat → Nat) (cnt : Nat) : Prop where
  up : ∀ j, j < N → seen j = true → rank j < cnt
  pred : ∀ j, j < N → seen j = true → (j : Int) ≠ s → Step ps x seen rank (by_ j) j
theorem tree_start {N : Nat} {ps : List PipeV} {x : Nat → Int} {s : Int} {by_ : Nat → Int × Bool} (h0 : 0 ≤ s) : Tree N ps x s (setB (fun _ => false) s.toNat) by_ (fun _ => 0) 1 := by
  refine ⟨fun j _ _ => by omega, fun j hj h hne => ?_⟩
  unfold setB at h
  split at h
  · omega
  · cases h
theorem setB_ne {seen : Nat → Bool} {k j : Nat} (h : j ≠ k) : setB seen k j = seen j := by unfold setB; rw [if_neg h]
theorem tree_add {N : Nat} {ps : List PipeV} {x : Nat → Int} {s : Int} {seen : Nat → Bool} {by_ : Nat → Int × Bool} {rank : Nat → Nat} {cnt t : Nat} {st : Int × Bool} (hP : InP N ps) (h : Tree N ps x s seen by_ rank cnt) (ht : t < N) (hn : seen t = false)
    (hst : ∃ k : Nat, ∃ h : k < ps.length, st.1 = (k : Int) ∧ ((st.2 = false ∧ ps[k].to = (t : Int) ∧ x k < ps[k].room ∧ seen ps[k].fr.toNat = true) ∨ (st.2 = true ∧ ps[k].fr = (t : Int) ∧ 0 < x k ∧ seen ps[k].to.toNat = true))) :
    Tree N ps x s (setB seen t) (setS by_ t st) (fun i => if i = t then cnt else rank i) (cnt + 1) := by
  have ne : ∀ i, seen i = true → i ≠ t := fun i hi e => by rw [e, hn] at hi; cases hi
  refine ⟨fun j hj hs => ?_, fun j hj hs hne => ?_⟩
  · by_cases e : j = t
    · simp [e]
    · rw [setB_ne e] at hs
      have := h.up j hj hs
      simp [e]; omega
  · by_cases e : j = t
    · subst e
      obtain ⟨k, hk, h1, h2⟩ := hst
      have hp := hP ps[k] (List.getElem_mem hk)
      refine ⟨k, hk, by simp [setS, h1], ?_⟩
      rcases h2 with ⟨a, b, c, d⟩ | ⟨a, b, c, d⟩
      · have hr := h.up _ (by omega) d
        refine .inl ⟨by simp [setS, a], b, c, setB_mono d, ?_⟩
        simp [ne _ d]; exact hr
      · have hr := h.up _ (by omega) d
        refine .inr ⟨by simp [setS, a], b, c, setB_mono d, ?_⟩
        simp [ne _ d]; exact hr
    · rw [setB_ne e] at hs
      obtain ⟨k, hk, h1, h2⟩ := h.pred j hj hs hne
      refine ⟨k, hk, by simp [setS, e, h1], ?_⟩
      rcases h2 with ⟨a, b, c, d, f⟩ | ⟨a, b, c, d, f⟩
      · refine .inl ⟨by simp [setS, e, a], b, c, setB_mono d, ?_⟩
        simp [ne _ d, e]; exact f
      · refine .inr ⟨by simp [setS, e, a], b, c, setB_mono d, ?_⟩
        simp [ne _ d, e]; exact f
/-- In the midst of the walk: node x0 is at hand; the arcs D have been looked at. -/
structure WSt (N : Nat) (ps : List PipeV) (x : Nat → Int) (s x0 : Int) (D : List ArcV) (seen : Nat → Bool) (by_ : Nat → Int × Bool) (q : List Int) (rank : Nat → Nat) (cnt : Nat) : Prop where
  bfs : Bfs N (resArcs ps x) s seen q (fun j => j = x0)
  tree : Tree N ps x s seen by_ rank cnt
  cur : seen x0.toNat = true
  in0 : 0 ≤ x0 ∧ x0 < N
  done : ∀ a ∈ D, a.fr = x0 → seen a.to.toNat = true
/-- A node that is new, by pipe k along. -/
theorem wst_fwd_new {N : Nat} {ps : List PipeV} {x : Nat → Int} {s x0 : Int} {D : List ArcV} {seen : Nat → Bool} {by_ : Nat → Int × Bool} {q : List Int} {rank : Nat → Nat} {cnt k : Nat} (hP : InP N ps) (h : WSt N ps x s x0 D seen by_ q rank cnt) (hk : k < ps.length) (hf : ps[k].fr = x0) (hr : x k < ps[k].room) (hn : seen ps[k].to.toNat = false) :
    WSt N ps x s x0 (D ++ fwdPart ps[k] (x k)) (setB seen ps[k].to.toNat) (setS by_ ps[k].to.toNat (k, false)) (q ++ [ps[k].to]) (fun i => if i = ps[k].to.toNat then cnt else rank i) (cnt + 1) := by
  have hp := hP ps[k] (List.getElem_mem hk)
  have e : ((ps[k].to.toNat : Nat) : Int) = ps[k].to := by omega
  have hc := h.cur
  refine ⟨bfs_add h.bfs h.cur h.in0 (res_fwd hk hr) hf hp.2.1, tree_add hP h.tree (by omega) hn ⟨k, hk, rfl, .inl ⟨rfl, e.symm, hr, by rw [hf]; exact hc⟩⟩, setB_mono h.cur, h.in0, fun a ha haf => ?_⟩
  rcases List.mem_append.1 ha with ha | ha
  · exact setB_mono (h.done a ha haf)
  · unfold fwdPart at ha
    rw [if_pos hr] at ha
    simp at ha
    subst ha
    simp [setB]
theorem wst_fwd_old {N : Nat} {ps : List PipeV} {x : Nat → Int} {s x0 : Int} {D : List ArcV} {seen : Nat → Bool} {by_ : Nat → Int × Bool} {q : List Int} {rank : Nat → Nat} {cnt k : Nat} (h : WSt N ps x s x0 D seen by_ q rank cnt) (hk : k < ps.length) (hno : ¬ (ps[k].fr = x0 ∧ x k < ps[k].room ∧ seen ps[k].to.toNat = false)) :
    WSt N ps x s x0 (D ++ fwdPart ps[k] (x k)) seen by_ q rank cnt := by
  refine ⟨h.bfs, h.tree, h.cur, h.in0, fun a ha haf => ?_⟩
  rcases List.mem_append.1 ha with ha | ha
  · exact h.done a ha haf
  · unfold fwdPart at ha
    split at ha
    · rename_i hr
      simp at ha
      subst ha
      cases hs : seen ps[k].to.toNat
      · exact absurd ⟨haf, hr, hs⟩ hno
      · rfl
    · cases ha
theorem wst_back_new {N : Nat} {ps : List PipeV} {x : Nat → Int} {s x0 : Int} {D : List ArcV} {seen : Nat → Bool} {by_ : Nat → Int × Bool} {q : List Int} {rank : Nat → Nat} {cnt k : Nat} (hP : InP N ps) (h : WSt N ps x s x0 D seen by_ q rank cnt) (hk : k < ps.length) (hf : ps[k].to = x0) (hr : 0 < x k) (hn : seen ps[k].fr.toNat = false) :
    WSt N ps x s x0 (D ++ backPart ps[k] (x k)) (setB seen ps[k].fr.toNat) (setS by_ ps[k].fr.toNat (k, true)) (q ++ [ps[k].fr]) (fun i => if i = ps[k].fr.toNat then cnt else rank i) (cnt + 1) := by
  have hp := hP ps[k] (List.getElem_mem hk)
  have e : ((ps[k].fr.toNat : Nat) : Int) = ps[k].fr := by omega
  have hc := h.cur
  refine ⟨bfs_add h.bfs h.cur h.in0 (res_back hk hr) hf hp.1, tree_add hP h.tree (by omega) hn ⟨k, hk, rfl, .inr ⟨rfl, e.symm, hr, by rw [hf]; exact hc⟩⟩, setB_mono h.cur, h.in0, fun a ha haf => ?_⟩
  rcases List.mem_append.1 ha with ha | ha
  · exact setB_mono (h.done a ha haf)
  · unfold backPart at ha
    rw [if_pos hr] at ha
    simp at ha
    subst ha
    simp [setB]
theorem wst_back_old {N : Nat} {ps : List PipeV} {x : Nat → Int} {s x0 : Int} {D : List ArcV} {seen : Nat → Bool} {by_ : Nat → Int × Bool} {q : List Int} {rank : Nat → Nat} {cnt k : Nat} (h : WSt N ps x s x0 D seen by_ q rank cnt) (hk : k < ps.length) (hno : ¬ (ps[k].to = x0 ∧ 0 < x k ∧ seen ps[k].fr.toNat = false)) :
    WSt N ps x s x0 (D ++ backPart ps[k] (x k)) seen by_ q rank cnt := by
  refine ⟨h.bfs, h.tree, h.cur, h.in0, fun a ha haf => ?_⟩
  rcases List.mem_append.1 ha with ha | ha
  · exact h.done a ha haf
  · unfold backPart at ha
    split at ha
    · rename_i hr
      simp at ha
      subst ha
      cases hs : seen ps[k].fr.toNat
      · exact absurd ⟨haf, hr, hs⟩ hno
      · rfl
    · cases ha
/-- A node is taken out of the row. -/
theorem wst_pop {N : Nat} {ps : List PipeV} {x : Nat → Int} {s x0 : Int} {seen : Nat → Bool} {by_ : Nat → Int × Bool} {q : List Int} {rank : Nat → Nat} {cnt : Nat} (hb : Bfs N (resArcs ps x) s seen (x0 :: q) (fun _ => False)) (ht : Tree N ps x s seen by_ rank cnt) : WSt N ps x s x0 [] seen by_ q rank cnt := by
  have := hb.queue x0 (by simp)
  exact ⟨bfs_pop hb, ht, this.2.2, ⟨this.1, this.2.1⟩, by simp⟩
theorem wst_next {N : Nat} {ps : List PipeV} {x : Nat → Int} {s x0 : Int} {seen : Nat → Bool} {by_ : Nat → Int × Bool} {q : List Int} {rank : Nat → Nat} {cnt k : Nat} (hk : k < ps.length) (h : WSt N ps x s x0 (resK ps x k ++ fwdPart ps[k] (x k) ++ backPart ps[k] (x k)) seen by_ q rank cnt) : WSt N ps x s x0 (resK ps x (k + 1)) seen by_ q rank cnt := by
  rw [resK_succ hk, resOne_parts, ← List.append_assoc]; exact h
theorem wst_end {N : Nat} {ps : List PipeV} {x : Nat → Int} {s x0 : Int} {seen : Nat → Bool} {by_ : Nat → Int × Bool} {q : List Int} {rank : Nat → Nat} {cnt : Nat} (h : WSt N ps x s x0 (resK ps x ps.length) seen by_ q rank cnt) : Bfs N (resArcs ps x) s seen q (fun _ => False) :=
  bfs_done h.bfs fun a ha haf => h.done a ha haf
/-- What walk hands back. -/
structure Walked (N : Nat) (ps : List PipeV) (x : Nat → Int) (s : Int) (seen : Nat → Bool) (by_ : Nat → Int × Bool) : Prop where
  rch : ∀ j, j < N → (seen j = true ↔ Rch (resArcs ps x) s j)
  tree : ∃ rank, ∀ j, j < N → seen j = true → (j : Int) ≠ s → Step ps x seen rank (by_ j) j
  start : seen s.toNat = true
theorem walked_end {N : Nat} {ps : List PipeV} {x : Nat → Int} {s : Int} {seen : Nat → Bool} {by_ : Nat → Int × Bool} {rank : Nat → Nat} {cnt : Nat} (hP : InP N ps) (h0 : 0 ≤ s) (h1 : s < N) (hb : Bfs N (resArcs ps x) s seen [] (fun _ => False)) (ht : Tree N ps x s seen by_ rank cnt) : Walked N ps x s seen by_ :=
  ⟨fun j hj => bfs_end hb (res_in hP) h0 h1 j hj, ⟨rank, ht.pred⟩, hb.start⟩
end Go.Proofs.Ytgnmbmlpfjlbiaa
