/- A tracker's table in memory: what becomes of it where a map is written. No condition. -/
import Derived.Test.YtjmjaailmlnkjaaDoorTrVal
namespace Go.Proofs.YtjmjaailmlnkjaaDoor
open Go.RowKit
set_option linter.unusedVariables false
set_option linter.unusedSimpArgs false
set_option maxRecDepth 100000

variable {w w' : World} {t mb b : Nat} {most each : Int} {E : EntL} {d : List UInt8} {ps ps' : List PeerL}
def blkE (E : EntL) : List Nat := E.map (fun x => x.2.1)
theorem ins_out {x y : List UInt8 × (Nat × List PeerL)} (h : Rising kD E) (hy : y ∈ E) (e1 : x.1 = y.1) (e2 : x.2.1 = y.2.1) : (insK kD x E).map outE = E.map outE ∧ blkE (insK kD x E) = blkE E := by
  have hm := insK_map (f := kD) (g := kD) (fun x : List UInt8 × (Nat × List PeerL) => (x.1, x.2.1)) (fun _ => rfl) x E
  have hr : Rising kD (E.map (fun x : List UInt8 × (Nat × List PeerL) => (x.1, x.2.1))) := Rising.map (f := kD) (fun _ => rfl) h
  have hx : ((x.1, x.2.1) : List UInt8 × Nat) ∈ E.map (fun x : List UInt8 × (Nat × List PeerL) => (x.1, x.2.1)) := by
    rw [e1, e2]; exact List.mem_map.2 ⟨y, hy, rfl⟩
  rw [insK_same hr hx] at hm
  constructor
  · have := congrArg (List.map (fun x : List UInt8 × Nat => (x.1, Value.map (some x.2)))) hm
    rw [List.map_map, List.map_map] at this
    exact this
  · have := congrArg (List.map (fun x : List UInt8 × Nat => x.2)) hm
    rw [List.map_map, List.map_map] at this
    exact this
theorem ownE_iff {k : Nat} : ownE mb E k ↔ k ∈ mb :: blkE E := by
  unfold ownE blkE
  rw [List.mem_cons, List.mem_map]

/-- A new blob, with no peer yet. -/
theorem TabP.put_new (h : TabP w t most each mb E) (hr : Rising kD E) (hd : ∀ x ∈ E, x.1.length = 32) (h32 : d.length = 32) (hg : getK kD (natL d) E = none) (hbt : b ≠ t ∧ ¬ ownE mb E b) (hb : MapL KInt w b [])
    (hm : MapL KDig w' mb (putM (E.map outE) d (.map (some b)))) (hgr : w.grownBy w' (some mb)) : TabP w' t most each mb (insK kD (d, (b, [])) E) := by
  have hp := insK_perm (f := kD) (x := (d, (b, ([] : List PeerL)))) hr
  have hdel : delK kD (kD (d, (b, ([] : List PeerL)))) E = E := delK_none (getK_none.1 hg)
  rw [hdel] at hp
  have hmb : ∀ k, ownE mb E k → k ≠ mb → w'.heap[k]? = w.heap[k]? := fun k hk hne => hgr.block k (h.own_lt hk) (fun e => by cases e; exact hne rfl)
  have hap := h.apart
  refine ⟨(hgr.block t h.lt (fun e => h.own_ne (.inl rfl) (by cases e; rfl))).trans h.tab, ?_, fun x hx => ?_, ?_⟩
  · refine hm.perm ?_
    unfold putM
    rw [delL_out hd h32]
    have e2 : delK kD (natL d : Int) E = E := delK_none (getK_none.1 hg)
    rw [e2]
    exact (hp.map outE).symm
  · rcases (mem_insK hr).1 hx with rfl | ⟨h1, _⟩
    · exact hb.of_block (hgr.block _ hb.lt (fun e => by cases e; exact hbt.2 (.inl rfl)))
    · refine (h.ins x h1).of_block (hmb _ (.inr ⟨x, h1, rfl⟩) (fun e => ?_))
      have := (List.nodup_cons.1 (List.nodup_cons.1 hap).2).1
      exact this (List.mem_map.2 ⟨x, h1, e⟩)
  · have hpb : (blkE (insK kD (d, (b, [])) E)).Perm (b :: blkE E) := hp.map (fun x : List UInt8 × (Nat × List PeerL) => x.2.1)
    have h2 : (t :: mb :: blkE (insK kD (d, (b, [])) E)).Perm (b :: t :: mb :: blkE E) := ((hpb.cons mb).cons t).trans ((List.Perm.cons t (List.Perm.swap b mb _)).trans (List.Perm.swap b t _))
    refine h2.nodup_iff.2 (List.nodup_cons.2 ⟨?_, hap⟩)
    intro hm2
    rcases List.mem_cons.1 hm2 with e | e
    · exact hbt.1 e
    · exact hbt.2 (ownE_iff.2 e)
theorem own_put_new (hr : Rising kD E) {k : Nat} (hk : ownE mb (insK kD (d, (b, ps)) E) k) : ownE mb E k ∨ k = b := by
  rcases hk with rfl | ⟨x, hx, rfl⟩
  · exact .inl (.inl rfl)
  · rcases (mem_insK hr).1 hx with rfl | ⟨h1, _⟩
    · exact .inr rfl
    · exact .inl (.inr ⟨x, h1, rfl⟩)
/-- A blob's peers are others now. -/
theorem TabP.set (h : TabP w t most each mb E) (hr : Rising kD E) (hg : (d, (b, ps)) ∈ E) (hm : MapL KInt w' b (ps'.map inE)) (hgr : w.grownBy w' (some b)) : TabP w' t most each mb (insK kD (d, (b, ps')) E) := by
  obtain ⟨e1, e2⟩ := ins_out (x := (d, (b, ps'))) hr hg rfl rfl
  have hap := h.apart
  have hnm : b ≠ mb := fun e => (List.nodup_cons.1 (List.nodup_cons.1 hap).2).1 (e ▸ List.mem_map.2 ⟨_, hg, rfl⟩)
  refine ⟨(hgr.block t h.lt (fun e => h.own_ne (.inr ⟨_, hg, rfl⟩) (by cases e; rfl))).trans h.tab, ?_, fun x hx => ?_, ?_⟩
  · rw [e1]
    exact h.map.of_block (hgr.block _ h.map.lt (fun e => hnm (by cases e; rfl)))
  · rcases (mem_insK hr).1 hx with rfl | ⟨h1, h2⟩
    · exact hm
    · refine (h.ins x h1).of_block (hgr.block _ (h.ins x h1).lt (fun e => ?_))
      have hbe : x.2.1 = b := by cases e; rfl
      -- two entries of one block are one
      have hnd := (List.nodup_cons.1 (List.nodup_cons.1 hap).2).2
      have hxx : x = (d, (b, ps)) := by
        clear hm hgr e1 e2 h hx hap
        induction E with
        | nil => cases h1
        | cons z E ih =>
          rw [List.map_cons, List.nodup_cons] at hnd
          rcases List.mem_cons.1 h1 with q1 | q1 <;> rcases List.mem_cons.1 hg with q2 | q2
          · rw [q1, q2]
          · refine absurd ?_ hnd.1
            rw [← q1, hbe]
            exact List.mem_map.2 ⟨_, q2, rfl⟩
          · refine absurd ?_ hnd.1
            rw [← q2]
            exact List.mem_map.2 ⟨_, q1, hbe⟩
          · exact ih hr.tail q2 q1 hnd.2
      exact h2 (by rw [hxx]; rfl)
  · show (t :: mb :: blkE (insK kD (d, (b, ps')) E)).Nodup
    rw [e2]; exact hap
theorem own_set (hr : Rising kD E) (hg : (d, (b, ps)) ∈ E) {k : Nat} (hk : ownE mb (insK kD (d, (b, ps')) E) k) : ownE mb E k := by
  rw [ownE_iff] at hk ⊢
  rwa [(ins_out (x := (d, (b, ps'))) hr hg rfl rfl).2] at hk
/-- A blob is gone. -/
theorem TabP.cut (h : TabP w t most each mb E) (hd : ∀ x ∈ E, x.1.length = 32) (h32 : d.length = 32) (hm : MapL KDig w' mb (delL (E.map outE) d)) (hgr : w.grownBy w' (some mb)) : TabP w' t most each mb (delK kD (natL d) E) := by
  have hap := h.apart
  refine ⟨(hgr.block t h.lt (fun e => h.own_ne (.inl rfl) (by cases e; rfl))).trans h.tab, ?_, fun x hx => ?_, ?_⟩
  · rwa [delL_out hd h32] at hm
  · have h1 := (mem_delK.1 hx).1
    refine (h.ins x h1).of_block (hgr.block _ (h.ins x h1).lt (fun e => ?_))
    have := (List.nodup_cons.1 (List.nodup_cons.1 hap).2).1
    exact this (List.mem_map.2 ⟨x, h1, by cases e; rfl⟩)
  · refine hap.sublist (List.Sublist.cons_cons _ (List.Sublist.cons_cons _ ?_))
    exact List.filter_sublist.map _
theorem own_cut {j : Int} {k : Nat} (hk : ownE mb (delK kD j E) k) : ownE mb E k := by
  rcases hk with rfl | ⟨x, hx, rfl⟩
  · exact .inl rfl
  · exact .inr ⟨x, (mem_delK.1 hx).1, rfl⟩
/-- An inner map's put and delete, in terms of peers. -/
theorem put_in {p : PeerL} (h : MapL KInt w b (putM (ps.map inE) p.id (RPeer.V p))) (hr : Rising PeerL.id ps) : MapL KInt w b ((insK PeerL.id p ps).map inE) := by
  refine h.perm ?_
  unfold putM
  rw [delL_in]
  exact ((insK_perm (f := PeerL.id) (x := p) hr).map inE).symm

end Go.Proofs.YtjmjaailmlnkjaaDoor
