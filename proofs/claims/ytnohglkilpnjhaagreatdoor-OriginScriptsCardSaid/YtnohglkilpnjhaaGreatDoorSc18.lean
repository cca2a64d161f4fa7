/- Lemmas that the statement of this claim leans on; their own comments are taken out, for the size of the claim. No condition beyond what each lemma states. -/
import Derived.Test.YtnohglkilpnjhaaGreatDoorSc17
import Derived.Laws.EntriesVeiled
import Derived.Deep.DeepCutAuto
import Derived.Deep.Cut
import Derived.Deep.QuietTactic
import Derived.BigQuiet
set_option linter.unusedVariables false
set_option linter.unusedSimpArgs false
set_option linter.unusedSectionVars false
namespace Go.Proofs.YtnohglkilpnjhaaGreatDoor
open Go.RowKit Go.Shelf
attribute [local go_sem] Oper.semAt_some
set_option maxRecDepth 100000 in
set_option maxHeartbeats 1600000 in
theorem Proof_no (v:Value) (l:List (List UInt8)) (i:Int) (w:World) (hl:Digs w v l) (h:¬ (0 ≤ i∧i < l.length∧l.length ≤ 1024)) (hi1:-9223372036854775808 ≤ i) (hi2:i ≤ 9223372036854775807) :
  Calls Tryz.prog 82 #[v,.int .i64 i] w (ProofPost w ([],1)):=by
 have hle:=hl.le
 unfold maxLen at hle
 obtain ⟨va,vc,hv⟩:=hl.len
 subst hv
 by_cases c1:i < 0
 all_goals by_cases c2:(l.length:Int) ≤ i
 all_goals by_cases c3:(1024:Int) < l.length
 all_goals first | (exfalso;omega) | skip
 all_goals clear h
 all_goals go_enter Tryz.func82,Tryz.ntmps82
 all_goals go_wp2
 all_goals go_ret2
 all_goals exact ⟨_,rfl,OwnD.nil _ _,(Below.refl _ _).alloc (Nat.le_refl _) _⟩
def ProofI (w:World) (i:Nat) (g:Nat) (pre:List (List (List UInt8) × Nat)) (W:World):Prop:=
 ∃ ov,One W w.heap.size (.int .i64 ((i / 2 ^ pre.length:Nat):Int)) 3∧One W (w.heap.size + 1) ov 34∧OwnD W (w.heap.size + 5) ov (proofR (pre.map (·.1)) i)∧(∀ k,ov.ownBlock = some k→k ≠ g)∧Below w.heap.size w W∧w.heap.size + 3 ≤ W.heap.size
set_option maxRecDepth 100000 in
set_option maxHeartbeats 1600000 in
theorem Proof_yes (v:Value) (l:List (List UInt8)) (i:Nat) (w:World) (hl:Digs w v l) (hi:i < l.length) (hlen:l.length ≤ 1024) (hK:Consts w) :
  Calls Tryz.prog 82 #[v,.int .i64 (i:Int)] w (ProofPost w (proofL l i,0)):=by
 obtain ⟨va,vc,hv⟩:=hl.len
 subst hv
 have c1:¬ (i:Int) < 0:=by omega
 have c2:¬ (l.length:Int) ≤ i:=by omega
 have c3:¬ (1024:Int) < l.length:=by omega
 refine (callsIn_wide (n:=3)).1 ?_
 refine callsIn_of_wp_marks Tryz.func82 rfl trivial ?_ rfl
 simp only [Tryz.ntmps82,List.size_toArray,List.length_cons,List.length_nil,Nat.reduceAdd,Nat.reduceSub,Array.replicate_succ,Array.replicate_zero,List.push_toArray,List.append_toArray,List.nil_append,List.cons_append]
 gi_wp2_with (refine ⟨trivial,?_⟩;gi_at_call 119;refine (callsIn_wide.2 (rows_any _ _ _ _)).mono ?_;rintro e w' ⟨rfl,rfl⟩)
 generalize hW0:((w.alloc _).alloc _).alloc _ = W0
 obtain ⟨hsz,hB0,o1,o2,o3⟩:W0.heap.size = w.heap.size + 3∧Below w.heap.size w W0∧W0.heap[w.heap.size]? = some (.cells #[.int .i64 (i:Int)] 3)∧W0.heap[w.heap.size + 1]? = some (.cells #[.slice none 0 0] 34)∧W0.heap[w.heap.size + 1 + 1]? = some (.cells #[.slice va l.length vc] 34):=by
  subst hW0
  refine ⟨by simp,(((Below.refl _ w).alloc (Nat.le_refl _) _).alloc (by simp) _).alloc (by simp;omega) _,?_,?_,?_⟩
  ·exact (Below.heap_alloc _ _ _ (by simp;omega)).trans ((Below.heap_alloc _ _ _ (by simp)).trans (heap_alloc_new _ _))
  ·refine (Below.heap_alloc _ _ _ (by simp)).trans ?_
   have:=heap_alloc_new (w.alloc (.cells #[.int .i64 (i:Int)] 3)) (.cells #[.slice none 0 0] 34)
   rwa [World.size_alloc] at this
  ·have:=heap_alloc_new ((w.alloc (.cells #[.int .i64 (i:Int)] 3)).alloc (.cells #[.slice none 0 0] 34)) (.cells #[.slice va l.length vc] 34)
   rwa [World.size_alloc,World.size_alloc] at this
 clear hW0
 refine wpIn_rangeFunc_block (F:=Fence.wide) (n:=3) rfl (by omega) (gf:=161) (lb:=#[.pointer (some ⟨w.heap.size + 1 + 1,0,none⟩)]) rfl trivial
  (enters_of Tryz.func161 (by kernel_rfl) rfl)
  (encs:=encR) (It:=fun g pre x W'=>(pre ++ [x]).map (·.1) <+: rowsL l∧OwnD W' (W0.heap.size + 2) (.slice (some ⟨g,0,none⟩) x.1.length x.2) x.1)
  (S:=fun xs=>xs.map (·.1) = rowsL l) (Sp:=fun _=>True) (n0:=w.heap.size) (N:=(rowsL l).length) (by omega)
  (fun W1 hb1 hs1=>by
   have e1:W1.cell? ⟨w.heap.size + 1 + 1,0,none⟩ = some (.slice va l.length vc):=by
    have:=(hb1.block (w.heap.size + 1 + 1) (by omega)).trans o3
    simp [World.cell?,this]
   have hbw:Below w.heap.size w W1:=hB0.trans (hb1.mono (by omega))
   have:=rows_seq 2 (by omega) (w.heap.size + 1 + 1) w.heap.size _ l (by omega) (by omega) W1 w hK rfl hbw e1 (hl.of_new hbw)
   rw [hs1] at this
   exact this)
  (fun _ _=>rfl)
  (ProofI w i)
  (fun _ _ _ _=>False)
  (fun g s A B hg hs hk=>by
   obtain ⟨ov,a1,a2,a3,a4,a5,a6⟩:=hs
   refine ⟨ov,a1.of_block (hk.block _ (by omega) (by constructor <;> omega)),a2.of_block (hk.block _ (by omega) (by constructor <;> omega)),a3.kept (U:=fun _=>True) (fun k hk2=>hk.block _ (a3.lt k hk2).2 ⟨a4 k hk2,by have:=(a3.lt k hk2).1;omega⟩),a4,hk.to_below a5 (by omega) (fun k hk2=>by constructor <;> omega),Nat.le_trans a6 hk.size⟩)
  (fun _ _ _ _ _ _ h _=>h)
  (fun g pre x A B hg hs hk=>⟨hs.1,hs.2.kept (U:=fun _=>True) (fun k hk2=>hk.block _ (hs.2.lt k hk2).2 (by have:=(hs.2.lt k hk2).1;omega))⟩)
  (fun g W' hg hb=>⟨.slice none 0 0,by simpa using (show One W0 _ _ _ from o1).of_block (hb.block _ (by omega)),(show One W0 _ _ _ from o2).of_block (hb.block _ (by omega)),OwnD.nil _ _,(fun k h=>by cases h),hB0.trans (hb.mono (by omega)),by have:=hb.size;omega⟩)
  (fun g x=>{ tmps:=#[.slice va l.length vc,.int .i64 (i:Int),undef,.pointer (some ⟨w.heap.size,0,none⟩),.slice none 0 0,.int .i64 0,.pointer (some ⟨w.heap.size + 1,0,none⟩),.slice (some ⟨g,0,none⟩) x.1.length x.2,undef,.int .i64 (i:Int),
   .bool false,.bool false,.int .i64 (i:Int),.slice va l.length vc,.int .i64 (l.length:Int),.bool false,.bool false,.bool false,.slice va l.length vc,.int .i64 (l.length:Int),.bool false,.bool false,.slice va l.length vc,
   .func (.func 161) #[] #[.pointer (some ⟨w.heap.size + 1 + 1,0,none⟩)],.slice (some ⟨g,0,none⟩) x.1.length x.2,undef,undef,undef,undef,undef,undef,undef,undef,undef,undef,undef,undef,undef,undef,undef,undef,undef,undef,undef,undef,undef],defers:=[] }) ?assign ?body ?done ?stop
 case assign=>
  intro l g x W K hK
  gi_wp2
  exact hK
 case body=>
  rintro l' g pre ⟨x,cap⟩ W hg ⟨ov,q1,q2,q3,q4,q5,q6⟩ ⟨hpre,ho⟩ _ hW2
  dsimp only at ho
  have hmem:x ∈ rowsL l:=hpre.subset (by simp)
  obtain ⟨p1,p2,_⟩:=rows_at l.length l i (Nat.le_refl _) hi hl.1 (pre.map (·.1)) x (by simpa using hpre)
  simp only [List.length_map] at p1
  have hlen12:(rowsL l).length ≤ 11:=rowsL_len l 10 (by simpa using hlen)
  have hpl:pre.length ≤ 11:=by have:=hpre.length_le;simp at this;omega
  have hol:=proofR_len (pre.map (·.1)) i
  simp only [List.length_map] at hol
  have hsn:=proofR_snoc (pre.map (·.1)) x i
  have hnx:i / 2 ^ (pre ++ [(x,cap)]).length = i / 2 ^ pre.length / 2:=by
   rw [List.length_append,List.length_singleton,Nat.pow_succ,Nat.div_div_eq_div_mul]
  have hmap:(pre ++ [(x,cap)]).map (·.1) = pre.map (·.1) ++ [x]:=by simp
  rw [← hmap] at hsn
  simp only [List.length_map] at hsn
  have HN:=Lib.hid hnx
  have HS:=Lib.hid hsn
  have hbl:g < W.heap.size:=by
   have:=(ho.lt g rfl).2;exact this
  clear hsn hnx hmap hpre hmem hlen12
  generalize i / 2 ^ pre.length = k at *
  generalize proofR (pre.map (·.1)) i = out at *
  have qc1:=q1.cell
  have qf1:=q1.free
  have qc2:=q2.cell
  have qf2:=q2.free
  have hx1:1 ≤ 3 - 1 - 1:=by omega
  by_cases hz:0 ≤ besideZ x.length k
  ·have hbs:=hz
   have hlt1:(1:Int) < x.length:=by
    unfold besideZ at hz
    split at hz
    ·omega
    ·split at hz <;> omega
   have hb1:besideZ x.length k < x.length:=by
    unfold besideZ
    split
    ·omega
    ·split <;> omega
   have hst:stepP x k = [x.getD (besideZ x.length k).toNat []]:=by unfold stepP;rw [if_pos hz]
   have HT:=Lib.hid hst
   have hat:=ho.digs.digAt0 (i:=(besideZ x.length k).toNat) (by omega)
   have hlx:x.length ≤ 1024:=by omega
   clear hst
   generalize x.getD (besideZ x.length k).toNat [] = d at *
   have hbd:=beside_any x.length k
   generalize besideZ x.length k = at_ at *
   gi_wp2_with (refine ⟨trivial,?_⟩;gi_at_call 110;refine (CallsIn.inRound l' (callsIn_wide.2 (hbd _ p1 (by omega)))).mono ?_;rintro e w' ⟨rfl,rfl⟩)
   have hcov:∀ w2,Grew w' w2→w2.cell? ⟨w.heap.size + 1,0,none⟩ = some ov:=fun w2 h=>(q2.of_new h).cell
   refine wpIn_region_late (ro:=some l') (C:=Grew w') 5 ov (by kernel_rfl) rfl rfl rfl (by kernel_rfl) (by kernel_rfl) (by kernel_rfl) (Grew.start _) (fun w2 h2=>?_) (fun _ _ _ h=>h) ?_
   ·have:=hcov w2 h2
    go_simp
   simp only [List.take_succ_cons,List.take_zero,List.drop_succ_cons,List.drop_zero]
   go_simp
   repeat (first
    | (go_big_quiet_want;(with_reducible apply quiet_load_at (ty:=31) (x:=.tmp _));rfl;rfl;assumption;go_simp;go_big_quiet_on)
    | (go_big_quiet_want;apply quiet_val;(intro w' hw';go_simp;first | done | rfl);go_simp;go_big_quiet_on)
    | (go_big_quiet_skip))
   refine wpQuiet_nil ?_
   intro w5 hw5
   refine Late.mk ?_
   refine wp_buildDigs 1 _ [d] rfl rfl (by simp) (by simp) (fun y hy=>by simp at hy;rw [hy];exact hat.1) (by simp only [List.map_toArray,List.map_cons,List.map_nil];rfl) ?_
   intro w7 ho7 hb7 hs7
   have hb57:Below w'.heap.size w' w7:=below_next hw5 hb7
   refine ⟨hb57,?_⟩
   have q3':=q3.of_new hb57
   refine wpListIn_of_wp rfl (fun c hc=>by cases hc) (wp_appD (.tmp 36) (.tmp 41) rfl (w.heap.size + 5) ov out rfl q3' _ [d] rfl ho7.digs (by simp;omega) (by have:=hb57.size;omega) ?_)
   intro v8 w8 ho8 hg8 hv8
   have q1':=(q1.of_new hb57).grown hg8 (fun e=>by have:=(q3'.lt _ e.symm).1;omega)
   have q2':=(q2.of_new hb57).grown hg8 (fun e=>by have:=(q3'.lt _ e.symm).1;omega)
   have qc1':=q1'.cell
   have qf1':=q1'.free
   have qc2':=q2'.cell
   have qf2':=q2'.free
   have hv8':∀ k,v8.ownBlock = some k→k ≠ g:=fun k e=>by
    rcases hv8 k e with h | h
    ·exact q4 k h
    ·have:=hb57.size;omega
   have hk8:Kept (fun k=>(k = g∨k < w.heap.size)∨k = W0.heap.size∨k = W0.heap.size + 1) w' w8:=
    ((Kept.refl _ w').below hb57).grown hg8 (fun r e=>by have:=(q3'.lt r e).1;have:=q4 r e;omega)
   have hB8:Below w.heap.size w w8:=(below_next' q5 hb57).grown hg8 (by have:=hb57.size;omega) (fun j hj=>by have:=(q3'.lt j hj).1;omega)
   have hsz8:w'.heap.size ≤ w8.heap.size:=hk8.size
   rw [wF_some]
   clear hg8 hv8 ho7 hb7 hw5 qc1 qc2 qf1 qf2 hcov q3'
   have hend:proofR ((pre ++ [(x,cap)]).map (·.1)) i = out ++ [d]:=by rw [HS.out,HT.out]
   have HE:=Lib.hid hend
   clear hend
   generalize out ++ [d] = out8 at *
   obtain ⟨sa,sc,hv⟩:=ho8.digs.len
   subst hv
   gi_wp2
   refine ⟨?_,_,?_,?_,?_,hv8',?_,?_⟩
   ·exact ((by simpa [hsz] using hk8:Kept _ _ _).setCell (p:=⟨w.heap.size + 1,0,none⟩) (by simp;omega) _).setCell (p:=⟨w.heap.size,0,none⟩) (by simp;omega) _
   ·rw [HN.out];simpa using (q1'.other (p:=⟨w.heap.size + 1,0,none⟩) (by simp) _).set _
   ·exact (q2'.set _).other (by simp) _
   ·rw [HE.out]
    exact ho8.kept (U:=fun _=>True) (fun k hk=>by have:=(ho8.lt k hk).1;rw [Below.heap_setCell _ _ _ _ (by simp;omega),Below.heap_setCell _ _ _ _ (by simp;omega)])
   ·exact (hB8.setCell (p:=⟨w.heap.size + 1,0,none⟩) (by simp) _).setCell (p:=⟨w.heap.size,0,none⟩) (Nat.le_refl _) _
   ·simp [World.setCell];omega
  ·have hst:stepP x k = []:=by unfold stepP;rw [if_neg hz]
   have HT:=Lib.hid hst
   have hlx:x.length ≤ 1024:=by omega
   clear hst
   have hbd:=beside_any x.length k
   have hz':¬ (0 ≤ besideZ x.length k):=hz
   generalize besideZ x.length k = at_ at *
   gi_wp2_with (refine ⟨trivial,?_⟩;gi_at_call 110;refine (CallsIn.inRound l' (callsIn_wide.2 (hbd _ p1 (by omega)))).mono ?_;rintro e w' ⟨rfl,rfl⟩)
   have hend:proofR ((pre ++ [(x,cap)]).map (·.1)) i = out:=by rw [HS.out,HT.out,List.append_nil]
   refine ⟨(Kept.refl _ _).setCell (p:=⟨w.heap.size,0,none⟩) (by simp;omega) _,_,?_,?_,?_,q4,?_,?_⟩
   ·rw [HN.out];simpa using q1.set _
   ·exact q2.other (by simp) _
   ·rw [hend]
    exact q3.kept (U:=fun _=>True) (fun k hk=>by have:=(q3.lt k hk).1;rw [Below.heap_setCell _ _ _ _ (by simp;omega)])
   ·exact q5.setCell (p:=⟨w.heap.size,0,none⟩) (Nat.le_refl _) _
   ·simp [World.setCell];omega
 case done=>
  rintro g xs W hg hxs ⟨ov,q1,q2,q3,q4,q5,q6⟩ hW2 hD
  have qc2:=q2.cell
  obtain ⟨sa,sc,hv⟩:=q3.digs.len
  have hend:proofR (xs.map (·.1)) i = proofL l i:=by rw [hxs];rfl
  have HE:=Lib.hid hend
  clear hend hxs
  generalize proofR (xs.map (·.1)) i = out at *
  subst hv
  gi_wp2
  refine ⟨by simp,.inl ⟨_,_,rfl,run_takeDeferred hD,?_⟩⟩
  refine ⟨_,results_tmp2 rfl _ _ _,_,rfl,?_,?_⟩
  ·rw [← HE.out]
   refine OwnD.mono (base:=w.heap.size + 5) ?_ (by omega)
   exact q3.kept (U:=fun _=>True) (fun k hk=>by have:=(q3.lt k hk).1;exact World.putObj_heap_other (by omega))
  ·exact q5.grown (grownBy_putObj' _ _ _) q5.size (fun k e=>by cases e;omega)
 case stop=>
  rintro g c pre W _ _ h _ _
  exact h.elim
theorem Proof_any (v:Value) (l:List (List UInt8)) (i:Int) (w:World) (hl:Digs w v l) (hi1:-9223372036854775808 ≤ i) (hi2:i ≤ 9223372036854775807) (hK:Consts w) :
  Calls Tryz.prog 82 #[v,.int .i64 i] w (ProofPost w (proofE l i)):=by
 unfold proofE
 by_cases h:0 ≤ i∧i < l.length∧l.length ≤ 1024
 ·rw [if_pos h]
  obtain ⟨j,rfl⟩:∃ j:Nat,i = (j:Int):=⟨i.toNat,by omega⟩
  exact Proof_yes v l j w hl (by omega) (by omega) hK
 ·rw [if_neg h]
  exact Proof_no v l i w hl h hi1 hi2
end Go.Proofs.YtnohglkilpnjhaaGreatDoor
namespace Go.Proofs.YtnohglkilpnjhaaGreatDoor
open Go.RowKit
set_option maxRecDepth 100000
theorem wwithin_any (n lo hi:Int) (w:World):Calls Tryz.prog 128 #[.int .i64 n,.int .i64 lo,.int .i64 hi] w fun e w'=>e = .returned (.bool (withinB n lo hi))∧w = w':=by
 go_enter Tryz.func128,Tryz.ntmps128
 by_cases h1:lo ≤ n
 ·have e:withinB n lo hi = decide (n ≤ hi):=by simp [withinB,h1]
  rw [e]
  clear e
  go_wp2
  go_ret
  exact ⟨rfl,rfl⟩
 ·have e:withinB n lo hi = false:=by simp [withinB,h1]
  rw [e]
  clear e
  go_wp2
  go_ret
  exact ⟨rfl,rfl⟩
theorem ints_laid (w:World) (l:List Int) (e:TypeId) (hl:l.length ≤ maxLen):Ints (w.alloc (.cells (l.map I64).toArray e)) (.slice (some ⟨w.heap.size,0,none⟩) l.length l.length) l:=by
 refine ⟨by simp,_,l.length,rfl,Nat.le_refl _,hl,(fun h=>by cases h),fun _=>⟨w.heap.size,0,rfl,by simp,fun j hj=>?_⟩⟩
 rw [Nat.zero_add]
 simp only [World.cell?,heap_alloc_new w _]
 simp
def IntsPost (w:World) (l:List Int) (e:Ending) (w':World):Prop:=∃ v,e = .returned v∧Ints w' v l∧Below w.heap.size w w'
theorem intsPost_lit (w:World) (l:List Int) (n:Nat) (cs:Array Value) (e:TypeId) (hn:l.length = n) (hl:n ≤ 8) (hc:cs = (l.map I64).toArray):IntsPost w l (.returned (.slice (some ⟨w.heap.size,0,none⟩) n n)) (w.alloc (.cells cs e)):=by
 subst hn
 subst hc
 exact ⟨_,rfl,ints_laid w l e (by unfold maxLen;omega),(Below.refl _ _).alloc (Nat.le_refl _) _⟩
set_option maxHeartbeats 3200000 in
theorem has_any (k:Int) (w:World):Calls Tryz.prog 78 #[.int .i64 k] w (IntsPost w (hasL k)):=by
 rcases kinds k with h | h | h | h | h | h | h | h | h | h | h | h
 case inr.inr.inr.inr.inr.inr.inr.inr.inr.inr.inr=>
  rw [hasL_none h]
  have t1:(k == 1) = false:=beq_eq_false_iff_ne.2 (by omega)
  have t2:(k == 2) = false:=beq_eq_false_iff_ne.2 (by omega)
  have t3:(k == 3) = false:=beq_eq_false_iff_ne.2 (by omega)
  have t4:(k == 4) = false:=beq_eq_false_iff_ne.2 (by omega)
  have t5:(k == 5) = false:=beq_eq_false_iff_ne.2 (by omega)
  have t6:(k == 6) = false:=beq_eq_false_iff_ne.2 (by omega)
  have t7:(k == 7) = false:=beq_eq_false_iff_ne.2 (by omega)
  have t8:(k == 8) = false:=beq_eq_false_iff_ne.2 (by omega)
  have t9:(k == 9) = false:=beq_eq_false_iff_ne.2 (by omega)
  have t10:(k == 10) = false:=beq_eq_false_iff_ne.2 (by omega)
  have t11:(k == 11) = false:=beq_eq_false_iff_ne.2 (by omega)
  clear h
  go_enter Tryz.func78,Tryz.ntmps78
  go_wp2
  go_ret
  exact ⟨_,rfl,Row.of_nil 1,Below.refl _ _⟩
 all_goals
  subst h
  go_enter Tryz.func78,Tryz.ntmps78
  go_wp2
  go_ret
  exact intsPost_lit w _ _ _ _ rfl (by decide) rfl
set_option maxHeartbeats 1600000 in
theorem most_any (k:Int) (w:World):Calls Tryz.prog 131 #[.int .i64 k] w fun e w'=>e = .returned (.int .i64 (mostL k))∧w = w':=by
 by_cases h1:k = 1
 ·subst h1
  go_enter Tryz.func131,Tryz.ntmps131
  go_wp2
  go_ret
  exact ⟨rfl,rfl⟩
 by_cases h4:k = 4
 ·subst h4
  go_enter Tryz.func131,Tryz.ntmps131
  go_wp2
  go_ret
  exact ⟨rfl,rfl⟩
 by_cases h10:k = 10
 ·subst h10
  go_enter Tryz.func131,Tryz.ntmps131
  go_wp2
  go_ret
  exact ⟨rfl,rfl⟩
 have e:mostL k = 0:=by simp [mostL,h1,h4,h10]
 rw [e]
 have t1:(k == 1) = false:=beq_eq_false_iff_ne.2 h1
 have t4:(k == 4) = false:=beq_eq_false_iff_ne.2 h4
 have t10:(k == 10) = false:=beq_eq_false_iff_ne.2 h10
 clear h1 h4 h10 e
 go_enter Tryz.func131,Tryz.ntmps131
 go_wp2
 go_ret
 exact ⟨rfl,rfl⟩
theorem IsId_any (n:Int) (w:World):Calls Tryz.prog 87 #[.int .i64 n] w fun e w'=>e = .returned (.bool (idB n))∧w = w':=by
 go_enter Tryz.func87,Tryz.ntmps87
 by_cases h1:1 ≤ n
 ·have e:idB n = decide (n ≤ 65536):=by simp [idB,withinB,h1]
  rw [e]
  clear e
  go_wp2
  go_ret
  exact ⟨rfl,rfl⟩
 ·have e:idB n = false:=by simp [idB,withinB,h1]
  rw [e]
  clear e
  go_wp2
  go_ret
  exact ⟨rfl,rfl⟩
def IdxPost (w:World) (b:Bool) (e:Ending) (w':World):Prop:=∃ r:Int,e = .returned (.int .i64 r)∧decide (0 ≤ r) = b∧Below w.heap.size w w'
theorem drop_int {l:List Int} {k:Nat} (h:k < l.length):l.drop k = l.getD k 0 :: l.drop (k + 1):=by
 rw [List.drop_eq_getElem_cons h];simp [List.getD,List.getElem?_eq_getElem h]
theorem drop_mem {l:List MemL} {k:Nat} (h:k < l.length):l.drop k = l.getD k mem0 :: l.drop (k + 1):=by
 rw [List.drop_eq_getElem_cons h];simp [List.getD,List.getElem?_eq_getElem h]
set_option maxHeartbeats 1600000 in
theorem Index_any (v:Value) (l:List Int) (x:Int) (w:World) (hl:Ints w v l):Calls Tryz.prog 126 #[v,.int .i64 x] w (IdxPost w (decide (x ∈ l))):=by
 obtain ⟨a,c,hv⟩:=hl.len
 subst hv
 have hle:=hl.le
 have HL:=Lib.hid hl
 clear hl
 go_enter Tryz.func126,Tryz.ntmps126
 go_wp2
 go_loop [5,8] (fun _ iv=>∃ k:Nat,k ≤ l.length∧iv = .int .i64 k∧(x ∈ l↔x ∈ l.drop k)) (fun _ iv=>l.length - (intOf iv).toNat)
 case atStart=>exact ⟨0,Nat.zero_le _,rfl,Iff.rfl⟩
 case round=>
  obtain ⟨k,hk,rfl,hm⟩:=hrel
  by_cases hlt:k < l.length
  ·obtain ⟨b,off,c',hv,hbl,hc⟩:=HL.out.cell (by omega)
   obtain ⟨rfl,rfl⟩:a = some ⟨b,off,none⟩∧c = c':=by cases hv;exact ⟨rfl,rfl⟩
   replace hc:=hc k hlt
   rw [drop_int hlt] at hm
   generalize l.getD k 0 = y at *
   have HM:=Lib.hid hm
   clear hv hm
   by_cases hy:x = y
   ·have t:(x == y) = true:=beq_iff_eq.2 hy
    have HY:=Lib.hid hy
    clear hy
    go_wp2
    go_ret
    exact ⟨(k:Int),rfl,by rw [decide_eq_true (show (0:Int) ≤ (k:Int) by omega),decide_eq_true (HM.out.2 (by rw [HY.out];exact List.mem_cons_self))],Below.refl _ _⟩
   ·have t:(x == y) = false:=beq_eq_false_iff_ne.2 hy
    have HY:=Lib.hid hy
    clear hy
    go_wp2
    go_round
    case rel=>exact ⟨k + 1,by omega,by go_num,HM.out.trans ⟨fun h=>by rcases List.mem_cons.1 h with h | h;exact absurd h HY.out;exact h,fun h=>List.mem_cons_of_mem _ h⟩⟩
    case measure=>simp [intOf];omega
  ·rw [List.drop_of_length_le (by omega)] at hm
   have HM:=Lib.hid hm
   clear hm
   go_wp2
   go_ret
   exact ⟨-1,rfl,by rw [decide_eq_false (by omega),decide_eq_false (fun h=>by have:=HM.out.1 h;simp at this)],Below.refl _ _⟩
theorem Contains_any (v:Value) (l:List Int) (x:Int) (w:World) (hl:Ints w v l):Calls Tryz.prog 79 #[v,.int .i64 x] w fun e w'=>e = .returned (.bool (decide (x ∈ l)))∧Below w.heap.size w w':=by
 obtain ⟨B,hB⟩:∃ B,decide (x ∈ l) = B:=⟨_,rfl⟩
 have hI:=Index_any v l x w hl
 rw [hB] at hI ⊢
 clear hB
 go_enter Tryz.func79,Tryz.ntmps79
 go_wp2_with fail
 refine hI.mono ?_
 rintro e w1 ⟨r,rfl,hr,hb⟩
 have HR:=Lib.hid hr
 clear hr
 go_wp2
 go_ret
 exact ⟨ret_bool HR.out,hb⟩
theorem odd_any (n:Int) (w:World):Calls Tryz.prog 127 #[.int .i64 n] w fun e w'=>e = .returned (.bool (!idB n))∧w = w':=by
 obtain ⟨B,hB⟩:∃ B,idB n = B:=⟨_,rfl⟩
 have hI:=wwithin_any n 1 65536 w
 rw [show withinB n 1 65536 = idB n from rfl,hB] at hI
 rw [hB]
 clear hB
 go_enter Tryz.func127,Tryz.ntmps127
 go_wp2_with fail
 refine hI.mono ?_
 rintro e w1 ⟨rfl,rfl⟩
 go_wp2
 go_ret
 exact ⟨rfl,rfl⟩
set_option maxHeartbeats 1600000 in
theorem oddMember_any (x:MemL) (g:Nat) (w:World) (hg:w.cell? ⟨g,0,none⟩ = some (.func (.func 127) #[] #[])) :
  Calls Tryz.prog 129 #[.agg #[.int .i64 x.id,.int .i64 x.inc,.int .i64 x.state,.int .i64 x.since],.pointer (some ⟨g,0,none⟩)] w fun e w'=>e = .returned (.bool (!memB0 x))∧Below w.heap.size w w':=by
 have hgl:=World.block_lt_of_cell? _ _ hg
 have hgl:g < w.heap.size:=hgl
 have i1:=fun w'=>odd_any x.id w'
 have i2:=fun w'=>wwithin_any x.inc 0 1073741824 w'
 have i3:=fun w'=>wwithin_any x.state 1 3 w'
 have he:memB0 x = (idB x.id && withinB x.inc 0 1073741824 && withinB x.state 1 3 && decide (x.since = 0)):=rfl
 rw [he]
 clear he
 have hb:Below w.heap.size w (w.alloc (.cells #[.int .i64 x.id,.int .i64 x.inc,.int .i64 x.state,.int .i64 x.since] 113)):=(Below.refl _ _).alloc (Nat.le_refl _) _
 obtain ⟨xi,xj,xs,xt⟩:=x
 dsimp only at *
 generalize idB xi = A at *
 generalize withinB xj 0 1073741824 = B at *
 generalize withinB xs 1 3 = C at *
 cases A
 ·go_enter Tryz.func129,Tryz.ntmps129
  go_wp2_with (first | (go_at_call 127;refine (i1 _).mono ?_;rintro e w2 ⟨rfl,rfl⟩))
  go_ret
  exact ⟨rfl,hb⟩
 cases B
 ·go_enter Tryz.func129,Tryz.ntmps129
  go_wp2_with (first | (go_at_call 127;refine (i1 _).mono ?_;rintro e w2 ⟨rfl,rfl⟩) | (go_at_call 128;refine (i2 _).mono ?_;rintro e w2 ⟨rfl,rfl⟩))
  go_ret
  exact ⟨rfl,hb⟩
 cases C
 ·go_enter Tryz.func129,Tryz.ntmps129
  go_wp2_with (first | (go_at_call 127;refine (i1 _).mono ?_;rintro e w2 ⟨rfl,rfl⟩) | (go_at_call 128;with_reducible refine (i2 _).mono ?_;rintro e w2 ⟨rfl,rfl⟩) | (go_at_call 128;with_reducible refine (i3 _).mono ?_;rintro e w2 ⟨rfl,rfl⟩))
  go_ret
  exact ⟨rfl,hb⟩
 ·by_cases ht:xt = 0
  ·subst ht
   go_enter Tryz.func129,Tryz.ntmps129
   go_wp2_with (first | (go_at_call 127;refine (i1 _).mono ?_;rintro e w2 ⟨rfl,rfl⟩) | (go_at_call 128;with_reducible refine (i2 _).mono ?_;rintro e w2 ⟨rfl,rfl⟩) | (go_at_call 128;with_reducible refine (i3 _).mono ?_;rintro e w2 ⟨rfl,rfl⟩))
   go_ret
   exact ⟨rfl,hb⟩
  ·have t:(xt != 0) = true:=by simp [ht]
   rw [decide_eq_false ht]
   clear ht
   go_enter Tryz.func129,Tryz.ntmps129
   go_wp2_with (first | (go_at_call 127;refine (i1 _).mono ?_;rintro e w2 ⟨rfl,rfl⟩) | (go_at_call 128;with_reducible refine (i2 _).mono ?_;rintro e w2 ⟨rfl,rfl⟩) | (go_at_call 128;with_reducible refine (i3 _).mono ?_;rintro e w2 ⟨rfl,rfl⟩))
   go_ret
   exact ⟨rfl,hb⟩
set_option maxHeartbeats 1600000 in
theorem IndexFunc_any (v:Value) (l:List Int) (w:World) (hl:Ints w v l):Calls Tryz.prog 166 #[v,.func (.func 127) #[] #[]] w (IdxPost w (!l.all idB)):=by
 obtain ⟨a,c,hv⟩:=hl.len
 subst hv
 have hle:=hl.le
 have HL:=Lib.hid hl
 clear hl
 go_enter Tryz.func166,Tryz.ntmps166
 go_wp2
 go_loop [5,8] (fun _ iv=>∃ k:Nat,k ≤ l.length∧iv = .int .i64 k∧l.all idB = (l.drop k).all idB) (fun _ iv=>l.length - (intOf iv).toNat)
 case atStart=>exact ⟨0,Nat.zero_le _,rfl,rfl⟩
 case round=>
  obtain ⟨k,hk,rfl,hm⟩:=hrel
  by_cases hlt:k < l.length
  ·obtain ⟨b,off,c',hv,hbl,hc⟩:=HL.out.cell (by omega)
   obtain ⟨rfl,rfl⟩:a = some ⟨b,off,none⟩∧c = c':=by cases hv;exact ⟨rfl,rfl⟩
   replace hc:=hc k hlt
   rw [drop_int hlt,List.all_cons] at hm
   generalize l.getD k 0 = y at *
   have hO:=fun w'=>odd_any y w'
   generalize idB y = B at *
   have HM:=Lib.hid hm
   clear hv hm
   cases B with
   | false=>
    go_wp2_with (first | (go_at_call 127;refine (hO _).mono ?_;rintro e w2 ⟨rfl,rfl⟩))
    go_ret
    exact ⟨(k:Int),rfl,by rw [decide_eq_true (show (0:Int) ≤ (k:Int) by omega),HM.out];rfl,Below.refl _ _⟩
   | true=>
    go_wp2_with (first | (go_at_call 127;refine (hO _).mono ?_;rintro e w2 ⟨rfl,rfl⟩))
    go_round
    case rel=>exact ⟨k + 1,by omega,by go_num,by rw [HM.out];rfl⟩
    case measure=>simp [intOf];omega
  ·rw [List.drop_of_length_le (by omega)] at hm
   have HM:=Lib.hid hm
   clear hm
   go_wp2
   go_ret
   exact ⟨-1,rfl,by rw [decide_eq_false (by omega),HM.out];rfl,Below.refl _ _⟩
theorem ContainsFunc_any (v:Value) (l:List Int) (w:World) (hl:Ints w v l):Calls Tryz.prog 130 #[v,.func (.func 127) #[] #[]] w fun e w'=>e = .returned (.bool (!l.all idB))∧Below w.heap.size w w':=by
 obtain ⟨B,hB⟩:∃ B,(!l.all idB) = B:=⟨_,rfl⟩
 have hI:=IndexFunc_any v l w hl
 rw [hB] at hI ⊢
 clear hB
 go_enter Tryz.func130,Tryz.ntmps130
 go_wp2_with fail
 refine hI.mono ?_
 rintro e w1 ⟨r,rfl,hr,hb⟩
 have HR:=Lib.hid hr
 clear hr
 go_wp2
 go_ret
 exact ⟨ret_bool HR.out,hb⟩
set_option maxHeartbeats 1600000 in
theorem IndexFuncM_any (v:Value) (l:List MemL) (g:Nat) (w:World) (hl:Mems w v l) (hg:w.cell? ⟨g,0,none⟩ = some (.func (.func 127) #[] #[])) :
  Calls Tryz.prog 167 #[v,.func (.func 129) #[] #[.pointer (some ⟨g,0,none⟩)]] w (IdxPost w (!l.all memB0)):=by
 obtain ⟨a,c,hv⟩:=hl.len
 subst hv
 have hle:=hl.le
 have HL:=Lib.hid hl
 have HG:=Lib.hid hg
 have hgl:g < w.heap.size:=World.block_lt_of_cell? _ _ hg
 clear hl hg
 go_enter Tryz.func167,Tryz.ntmps167
 go_wp2
 go_loopw [5,8] (fun _ iv W=>∃ k:Nat,k ≤ l.length∧iv = .int .i64 k∧l.all memB0 = (l.drop k).all memB0∧Below w.heap.size w W) (fun _ iv _=>l.length - (intOf iv).toNat)
 case atStart=>exact ⟨0,Nat.zero_le _,rfl,rfl,Below.refl _ _⟩
 case round=>
  obtain ⟨k,hk,rfl,hm,hb⟩:=hrel
  by_cases hlt:k < l.length
  ·obtain ⟨b,off,c',hv,hbl,hc⟩:=HL.out.cell (by omega)
   obtain ⟨rfl,rfl⟩:a = some ⟨b,off,none⟩∧c = c':=by cases hv;exact ⟨rfl,rfl⟩
   replace hc:=(hc k hlt).of_new hb
   rw [drop_mem hlt,List.all_cons] at hm
   generalize l.getD k mem0 = y at *
   have hO:=oddMember_any y g wr ((hb.cell (p:=⟨g,0,none⟩) hgl).trans HG.out)
   generalize memB0 y = B at *
   obtain ⟨c0,c1,c2,c3⟩:=hc
   have HM:=Lib.hid hm
   clear hv hm
   cases B with
   | false=>
    go_wp2_with (first | (go_at_call 129;refine hO.mono ?_;rintro e w2 ⟨rfl,hb2⟩))
    go_ret
    exact ⟨(k:Int),rfl,by rw [decide_eq_true (show (0:Int) ≤ (k:Int) by omega),HM.out];rfl,below_next hb hb2⟩
   | true=>
    go_wp2_with (first | (go_at_call 129;refine hO.mono ?_;rintro e w2 ⟨rfl,hb2⟩))
    go_roundw
    case rel=>exact ⟨k + 1,by omega,by go_num,by rw [HM.out];rfl,below_next hb hb2⟩
    case measure=>simp [intOf];omega
  ·rw [List.drop_of_length_le (by omega)] at hm
   have HM:=Lib.hid hm
   clear hm
   go_wp2
   go_ret
   exact ⟨-1,rfl,by rw [decide_eq_false (by omega),HM.out];rfl,hb⟩
theorem ContainsFuncM_any (v:Value) (l:List MemL) (g:Nat) (w:World) (hl:Mems w v l) (hg:w.cell? ⟨g,0,none⟩ = some (.func (.func 127) #[] #[])) :
  Calls Tryz.prog 132 #[v,.func (.func 129) #[] #[.pointer (some ⟨g,0,none⟩)]] w fun e w'=>e = .returned (.bool (!l.all memB0))∧Below w.heap.size w w':=by
 obtain ⟨B,hB⟩:∃ B,(!l.all memB0) = B:=⟨_,rfl⟩
 have hI:=IndexFuncM_any v l g w hl hg
 rw [hB] at hI ⊢
 clear hB
 go_enter Tryz.func132,Tryz.ntmps132
 go_wp2_with fail
 refine hI.mono ?_
 rintro e w1 ⟨r,rfl,hr,hb⟩
 have HR:=Lib.hid hr
 clear hr
 go_wp2
 go_ret
 exact ⟨ret_bool HR.out,hb⟩
theorem msg_boxed (w:World) {m:MsgL} {s:MsgS} (h:m.hash.length = 32):∃ W,w.alloc (.cells (msgCells m s).toArray 37) = W∧MsgO W w.heap.size m s∧Below w.heap.size w W:=
 ⟨_,rfl,msg_alloc w h,(Below.refl _ w).alloc (Nat.le_refl _) _⟩
theorem eqz (n:Nat):((n:Int) == 0) = decide (n = 0):=by
 rw [Bool.eq_iff_iff];simp
set_option maxHeartbeats 3200000 in
theorem bare_any (m:MsgL) (s:MsgS) (i:Int) (w:World) (hm:MsgR w m s) (h1:1 ≤ i) (h2:i ≤ 8) :
  Calls Tryz.prog 81 #[MsgV m s,.int .i64 i] w fun e w'=>e = .returned (.bool (bareB m i))∧Below w.heap.size w w':=by
 obtain ⟨W,hW,ho,hb⟩:=msg_boxed w (s:=s) hm.hash
 rw [show MsgV m s = .agg (msgCells m s).toArray from rfl]
 obtain ⟨ai,ci,hi⟩:=hm.ids.len
 obtain ⟨ab,cb,hby⟩:=hm.bytes.len
 obtain ⟨ap,cp,hp⟩:=hm.proof.len
 obtain ⟨am,cm,hme⟩:=hm.members.len
 have e2:=ho.hash
 have e3:=ho.piece
 have e4:=ho.ids
 have e5:=ho.bytes
 have e6:=ho.proof
 have e7:=ho.members
 have e8:=ho.seed
 rw [hi] at e4
 rw [hby] at e5
 rw [hp] at e6
 rw [hme] at e7
 have h32:=hm.hash
 have hgd:=guard_dig
 have heq:=run_eql_dig m.hash zero32 h32 rfl
 rw [show (List.map B8 zero32).toArray = #[.int .u8 0,.int .u8 0,.int .u8 0,.int .u8 0,.int .u8 0,.int .u8 0,.int .u8 0,.int .u8 0,.int .u8 0,.int .u8 0,.int .u8 0,.int .u8 0,.int .u8 0,.int .u8 0,.int .u8 0,.int .u8 0,.int .u8 0,.int .u8 0,.int .u8 0,.int .u8 0,.int .u8 0,.int .u8 0,.int .u8 0,.int .u8 0,.int .u8 0,.int .u8 0,.int .u8 0,.int .u8 0,.int .u8 0,.int .u8 0,.int .u8 0,.int .u8 0] from rfl] at heq
 have HW:=Lib.hid hW
 clear hW hm hi hby hp hme h32 ho
 rcases (show i = 1∨i = 2∨i = 3∨i = 4∨i = 5∨i = 6∨i = 7∨i = 8 by omega) with rfl | rfl | rfl | rfl | rfl | rfl | rfl | rfl
 ·clear e2 e3 e4 e5 e6 e7 e8 heq
  go_enter Tryz.func81,Tryz.ntmps81
  go_wp2
  go_ret
  rw [HW.out]
  exact ⟨rfl,hb⟩
 ·clear e3 e4 e5 e6 e7 e8
  rw [show bareB m 2 = decide (m.hash = zero32) from rfl]
  generalize decide (m.hash = zero32) = z at *
  generalize m.hash = h at *
  go_enter Tryz.func81,Tryz.ntmps81
  go_upto_region 5 with (fail)
  rw [HW.out]
  go_wp2_with (first | ((with_reducible apply wpList_load_at (ty:=31) (x:=.tmp _));rfl;rfl;rfl;assumption))
  go_ret
  exact ⟨rfl,hb⟩
 ·clear e2 e4 e5 e6 e7 e8 heq
  rw [show bareB m 3 = decide (m.piece = 0) from rfl]
  have hd:decide (m.piece = 0) = (m.piece == 0):=rfl
  rw [hd]
  generalize m.piece = n at *
  clear hd
  go_enter Tryz.func81,Tryz.ntmps81
  go_upto_region 7 with (fail)
  rw [HW.out]
  go_wp2
  go_ret
  exact ⟨rfl,hb⟩
 ·clear e2 e3 e5 e6 e7 e8 heq
  rw [show bareB m 4 = decide (m.ids.length = 0) from rfl,← eqz]
  generalize m.ids.length = n at *
  go_enter Tryz.func81,Tryz.ntmps81
  go_upto_region 9 with (fail)
  rw [HW.out]
  go_wp2
  go_ret
  exact ⟨rfl,hb⟩
 ·clear e2 e3 e4 e6 e7 e8 heq
  rw [show bareB m 5 = decide (m.bytes.length = 0) from rfl,← eqz]
  generalize m.bytes.length = n at *
  go_enter Tryz.func81,Tryz.ntmps81
  go_upto_region 11 with (fail)
  rw [HW.out]
  go_wp2
  go_ret
  exact ⟨rfl,hb⟩
 ·clear e2 e3 e4 e5 e7 e8 heq
  rw [show bareB m 6 = decide (m.proof.length = 0) from rfl,← eqz]
  generalize m.proof.length = n at *
  go_enter Tryz.func81,Tryz.ntmps81
  go_upto_region 13 with (fail)
  rw [HW.out]
  go_wp2
  go_ret
  exact ⟨rfl,hb⟩
 ·clear e2 e3 e4 e5 e6 e8 heq
  rw [show bareB m 7 = decide (m.members.length = 0) from rfl,← eqz]
  generalize m.members.length = n at *
  go_enter Tryz.func81,Tryz.ntmps81
  go_upto_region 15 with (fail)
  rw [HW.out]
  go_wp2
  go_ret
  exact ⟨rfl,hb⟩
 ·clear e2 e3 e4 e5 e6 e7 heq
  rw [show bareB m 8 = !m.seed from rfl]
  generalize m.seed = n at *
  go_enter Tryz.func81,Tryz.ntmps81
  go_upto_region 16 with (fail)
  rw [HW.out]
  go_wp2
  go_ret
  exact ⟨rfl,hb⟩
set_option maxHeartbeats 3200000 in
theorem fits_any (m:MsgL) (s:MsgS) (i:Int) (w:World) (hm:MsgR w m s) (h1:1 ≤ i) (h2:i ≤ 8) :
  Calls Tryz.prog 80 #[MsgV m s,.int .i64 i] w fun e w'=>e = .returned (.bool (fitsB m i))∧Below w.heap.size w w':=by
 obtain ⟨W,hW,ho,hb⟩:=msg_boxed w (s:=s) hm.hash
 rw [show MsgV m s = .agg (msgCells m s).toArray from rfl]
 have hmW:=hm.of_new hb
 have hi:=hmW.ids
 have hme:=hmW.members
 obtain ⟨ai,ci,hvi⟩:=hi.len
 obtain ⟨ab,cb,hvb⟩:=hm.bytes.len
 obtain ⟨ap,cp,hvp⟩:=hm.proof.len
 obtain ⟨am,cm,hvm⟩:=hme.len
 have e0:=ho.kind
 have e3:=ho.piece
 have e4:=ho.ids
 have e5:=ho.bytes
 have e6:=ho.proof
 have e7:=ho.members
 have hls:=ho.lt
 rw [hvi] at e4 hi
 rw [hvb] at e5
 rw [hvp] at e6
 rw [hvm] at e7 hme
 have HW:=Lib.hid hW
 have HI:=Lib.hid hi
 have HM:=Lib.hid hme
 clear hW hm hmW hvi hvb hvp hvm ho hi hme
 have hbF:Below w.heap.size w (W.alloc (.cells #[.func (.func 127) #[] #[]] 130)):=hb.alloc hb.size _
 have hbG:Below W.heap.size W (W.alloc (.cells #[.func (.func 127) #[] #[]] 130)):=(Below.refl _ _).alloc (Nat.le_refl _) _
 rcases (show i = 3∨i = 4∨i = 5∨i = 6∨i = 7∨(i = 1∨i = 2∨i = 8) by omega) with rfl | rfl | rfl | rfl | rfl | h8
 ·rw [show fitsB m 3 = withinB m.piece 0 1023 from rfl]
  have hI:=fun w'=>wwithin_any m.piece 0 1023 w'
  generalize withinB m.piece 0 1023 = B at *
  clear e0 e4 e5 e6 e7
  generalize m.piece = n at *
  go_enter Tryz.func80,Tryz.ntmps80
  go_upto_region 1 with (fail)
  rw [HW.out]
  go_wp2_with (first | (go_at_call 128;refine (hI _).mono ?_;rintro e w2 ⟨rfl,rfl⟩))
  go_ret
  exact ⟨rfl,hbF⟩
 ·rw [show fitsB m 4 = (decide (m.ids.length ≤ 64) && m.ids.all idB) from rfl]
  have hC:=fun w' (h:Below W.heap.size W w')=>ContainsFunc_any _ m.ids w' (HI.out.of_new h)
  generalize m.ids.all idB = B at *
  generalize m.ids.length = n at *
  clear e0 e3 e5 e6 e7
  by_cases hn:n ≤ 64
  ·rw [decide_eq_true hn]
   have t:(n:Int) ≤ 64:=by omega
   go_enter Tryz.func80,Tryz.ntmps80
   go_upto_region 1 with (fail)
   rw [HW.out]
   go_wp2_with (first | (go_at_call 130;refine (hC _ hbG).mono ?_;rintro e w2 ⟨rfl,hb2⟩))
   go_ret
   exact ⟨ret_bool (by simp),below_next hbF hb2⟩
  ·rw [decide_eq_false hn]
   have t:¬ (n:Int) ≤ 64:=by omega
   clear hC
   go_enter Tryz.func80,Tryz.ntmps80
   go_upto_region 1 with (fail)
   rw [HW.out]
   go_wp2
   go_ret
   exact ⟨rfl,hbF⟩
 ·rw [show fitsB m 5 = withinB m.bytes.length 1 (mostL m.kind) from rfl]
  have hI:=fun w'=>wwithin_any m.bytes.length 1 (mostL m.kind) w'
  have hM:=fun w'=>most_any m.kind w'
  generalize withinB m.bytes.length 1 (mostL m.kind) = B at *
  generalize mostL m.kind = q at *
  generalize m.bytes.length = n at *
  generalize m.kind = k at *
  clear e3 e4 e6 e7
  go_enter Tryz.func80,Tryz.ntmps80
  go_upto_region 1 with (fail)
  rw [HW.out]
  go_upto_region 9 with (fail)
  generalize hWF:W.alloc _ = WF at *
  have f0:∀ w',Grew WF w'→w'.cell? ⟨w.heap.size,0,none⟩ = some (.int .i64 k):=fun w' hw'=>hw'.cell ((hbG.cell (p:=⟨w.heap.size,0,none⟩) hls).trans e0)
  have f5:∀ w',Grew WF w'→w'.cell? ⟨w.heap.size,35,none⟩ = some (.slice ab n cb):=fun w' hw'=>hw'.cell ((hbG.cell (p:=⟨w.heap.size,35,none⟩) hls).trans e5)
  clear e0 e5 hWF
  refine wp_region_grew (by kernel_rfl) (by kernel_rfl) ?_
  repeat (first
   | (go_big_quiet_want;apply quiet_call (f:=128);(intro w' hw';go_simp;first | done | rfl);(intro w' hw';exact Grew.same hw' (hI w'));go_simp;go_big_quiet_on)
   | (go_big_quiet_want;apply quiet_call (f:=131);(intro w' hw';go_simp;first | done | rfl);(intro w' hw';exact Grew.same hw' (hM w'));go_simp;go_big_quiet_on)
   | (go_big_quiet_want;(with_reducible apply quiet_load_at (ty:=31) (x:=.tmp _));rfl;rfl;assumption;go_simp;go_big_quiet_on)
   | (go_big_quiet_want;apply quiet_val;(intro w' hw';go_simp;first | done | rfl);go_simp;go_big_quiet_on)
   | (go_big_quiet_skip))
  refine wpQuiet_nil ?_
  intro w9 hw9
  go_wp2
  go_ret
  exact ⟨rfl,below_next hbF hw9⟩
 ·rw [show fitsB m 6 = decide (m.proof.length ≤ 10) from rfl]
  generalize m.proof.length = n at *
  have hd:decide (n ≤ 10) = decide ((n:Int) ≤ 10):=by rw [Bool.eq_iff_iff];simp;omega
  rw [hd]
  clear e0 e3 e4 e5 e7 hd
  go_enter Tryz.func80,Tryz.ntmps80
  go_upto_region 1 with (fail)
  rw [HW.out]
  go_wp2
  go_ret
  exact ⟨rfl,hbF⟩
 ·rw [show fitsB m 7 = (withinB m.members.length 1 65 && m.members.all memB0) from rfl]
  have hI:=fun w'=>wwithin_any m.members.length 1 65 w'
  have hC:=fun w' (h:Below W.heap.size W w') g hg=>ContainsFuncM_any _ m.members g w' (HM.out.of_new h) hg
  generalize m.members.all memB0 = B at *
  generalize withinB m.members.length 1 65 = A at *
  generalize m.members.length = n at *
  clear e0 e3 e4 e5 e6
  cases A
  ·clear hC
   go_enter Tryz.func80,Tryz.ntmps80
   go_upto_region 1 with (fail)
   rw [HW.out]
   go_wp2_with (first | (go_at_call 128;refine (hI _).mono ?_;rintro e w2 ⟨rfl,rfl⟩))
   go_ret
   exact ⟨rfl,hbF⟩
  ·go_enter Tryz.func80,Tryz.ntmps80
   go_upto_region 1 with (fail)
   rw [HW.out]
   go_wp2_with (first | (go_at_call 128;refine (hI _).mono ?_;rintro e w2 ⟨rfl,rfl⟩) | (go_at_call 132;refine (hC _ hbG W.heap.size (by go_simp)).mono ?_;rintro e w3 ⟨rfl,hb3⟩))
   go_ret
   exact ⟨ret_bool (by simp),below_next hbF hb3⟩
 ·have e:fitsB m i = true:=by unfold fitsB;rcases h8 with rfl | rfl | rfl <;> rfl
  rw [e]
  clear e0 e3 e4 e5 e6 e7 e
  rcases h8 with rfl | rfl | rfl
  all_goals
   go_enter Tryz.func80,Tryz.ntmps80
   go_upto_region 1 with (fail)
   rw [HW.out]
   go_wp2
   go_ret
   exact ⟨rfl,hbF⟩
theorem rightF_step (m:MsgL) {k:Nat} (h1:k ≤ 8):rightF m (9 - k) k = (itemB m k && rightF m (9 - (k + 1)) ((k + 1:Nat):Int)):=by
 rw [show 9 - k = (9 - (k + 1)) + 1 by omega,rightF]
 simp
theorem rightF_end (m:MsgL) (k:Int):rightF m (9 - 9) k = true:=rfl
theorem wrightB_from (m:MsgL):wrightB m = rightF m (9 - 1) ((1:Nat):Int):=rfl
set_option maxHeartbeats 3200000 in
theorem WRight_any (m:MsgL) (s:MsgS) (w:World) (hm:MsgR w m s) :
  Calls Tryz.prog 38 #[MsgV m s] w fun e w'=>e = .returned (.bool (wrightB m))∧Below w.heap.size w w':=by
 obtain ⟨W,hW,ho,hb⟩:=msg_boxed w (s:=s) hm.hash
 obtain ⟨V,hV⟩:∃ V,MsgV m s = V:=⟨_,rfl⟩
 have hH:=has_any m.kind W
 have e0:=ho.kind
 have hls:=ho.lt
 have HM:=Lib.hid hm
 have HO:=Lib.hid ho
 have HW:=Lib.hid hW
 obtain ⟨B,hB⟩:∃ B,wrightB m = B:=⟨_,rfl⟩
 rw [hB]
 have HB:=Lib.hid (hB.symm.trans (wrightB_from m))
 rw [show MsgV m s = .agg (msgCells m s).toArray from rfl] at hV ⊢
 clear hW hm ho hB hV
 go_enter Tryz.func38,Tryz.ntmps38
 go_upto_region 1 with (fail)
 rw [HW.out]
 go_wp2_with (first | (go_at_call 78;refine hH.mono ?_;rintro e w2 ⟨v2,rfl,hv2,hb2⟩;obtain ⟨a2,c2,hv⟩:=hv2.len;subst hv;have HV:=Lib.hid hv2;have HO2:=Lib.hid (HO.out.of_new hb2);have hbA:=below_next hb hb2;clear hv2 hb2))
 go_loopw [4,5] (fun iv _ W'=>∃ k:Nat,1 ≤ k∧k ≤ 9∧iv = .int .i64 k∧B = rightF m (9 - k) k∧Below w2.heap.size w2 W') (fun iv _ _=>9 - (intOf iv).toNat)
 case atStart=>exact ⟨1,by omega,by omega,rfl,HB.out,Below.refl _ _⟩
 case round=>
  obtain ⟨k,hk1,hk9,rfl,hm,hbk⟩:=hrel
  by_cases hlt:k ≤ 8
  ·rw [rightF_step m hlt] at hm
   have hbw:=below_next hbA hbk
   have HOk:=Lib.hid (HO2.out.of_new hbk)
   have hC:=Contains_any _ (hasL m.kind) k wr (HV.out.of_new hbk)
   have hF:=fun w' (h:Below wr.heap.size wr w')=>fits_any m s k w' (HM.out.of_new (below_next hbw h)) (by omega) (by omega)
   have hR:=fun w' (h:Below wr.heap.size wr w')=>bare_any m s k w' (HM.out.of_new (below_next hbw h)) (by omega) (by omega)
   generalize hQ:rightF m (9 - (k + 1)) ((k + 1:Nat):Int) = Q at *
   have HQ:=Lib.hid hQ
   unfold itemB at hm
   clear hQ
   by_cases hin:(k:Int) ∈ hasL m.kind
   ·rw [decide_eq_true hin] at hC
    rw [if_pos hin] at hm
    clear hin hR
    generalize fitsB m k = F at *
    have HN:=Lib.hid hm
    clear hm
    cases F with
    | false=>
     go_wp2_with (first
      | (go_at_call 79;refine hC.mono ?_;rintro e w3 ⟨rfl,hb3⟩;have HO3:=Lib.hid (HOk.out.of_new hb3))
      | ((with_reducible refine wpList_met (o:=⟨some 18,_,_,_,_,_⟩) ?_ ?_);rfl;intro K hK;refine wp_load_msg (g:=w.heap.size) (m:=m) (s:=s) rfl rfl HO3.out (hK _ _ ?_))
      | (go_at_call 80;refine (hF _ hb3).mono ?_;rintro e w4 ⟨rfl,hb4⟩))
     go_ret
     exact ⟨ret_bool (by rw [HN.out];rfl),below_next (below_next hbw hb3) hb4⟩
    | true=>
     go_wp2_with (first
      | (go_at_call 79;refine hC.mono ?_;rintro e w3 ⟨rfl,hb3⟩;have HO3:=Lib.hid (HOk.out.of_new hb3))
      | ((with_reducible refine wpList_met (o:=⟨some 18,_,_,_,_,_⟩) ?_ ?_);rfl;intro K hK;refine wp_load_msg (g:=w.heap.size) (m:=m) (s:=s) rfl rfl HO3.out (hK _ _ ?_))
      | (go_at_call 80;refine (hF _ hb3).mono ?_;rintro e w4 ⟨rfl,hb4⟩))
     go_roundw
     case rel=>exact ⟨k + 1,by omega,by omega,by go_num,by rw [HN.out,HQ.out];rfl,below_next (below_next hbk hb3) hb4⟩
     case measure=>simp [intOf];omega
   ·rw [decide_eq_false hin] at hC
    rw [if_neg hin] at hm
    clear hin hF
    generalize bareB m k = F at *
    have HN:=Lib.hid hm
    clear hm
    cases F with
    | false=>
     go_wp2_with (first
      | (go_at_call 79;refine hC.mono ?_;rintro e w3 ⟨rfl,hb3⟩;have HO3:=Lib.hid (HOk.out.of_new hb3))
      | ((with_reducible refine wpList_met (o:=⟨some 27,_,_,_,_,_⟩) ?_ ?_);rfl;intro K hK;refine wp_load_msg (g:=w.heap.size) (m:=m) (s:=s) rfl rfl HO3.out (hK _ _ ?_))
      | (go_at_call 81;refine (hR _ hb3).mono ?_;rintro e w4 ⟨rfl,hb4⟩))
     go_ret
     exact ⟨ret_bool (by rw [HN.out];rfl),below_next (below_next hbw hb3) hb4⟩
    | true=>
     go_wp2_with (first
      | (go_at_call 79;refine hC.mono ?_;rintro e w3 ⟨rfl,hb3⟩;have HO3:=Lib.hid (HOk.out.of_new hb3))
      | ((with_reducible refine wpList_met (o:=⟨some 27,_,_,_,_,_⟩) ?_ ?_);rfl;intro K hK;refine wp_load_msg (g:=w.heap.size) (m:=m) (s:=s) rfl rfl HO3.out (hK _ _ ?_))
      | (go_at_call 81;refine (hR _ hb3).mono ?_;rintro e w4 ⟨rfl,hb4⟩))
     go_roundw
     case rel=>exact ⟨k + 1,by omega,by omega,by go_num,by rw [HN.out,HQ.out];rfl,below_next (below_next hbk hb3) hb4⟩
     case measure=>simp [intOf];omega
  ·obtain rfl:k = 9:=by omega
   rw [rightF_end] at hm
   have HN:=Lib.hid hm
   clear hm
   go_wp2
   go_ret
   exact ⟨ret_bool HN.out.symm,below_next hbA hbk⟩
theorem build_rtab (a b:Int) (W:World):(Instr.build 144 #[(0,.int .i64 a),(1,.int .i64 b)]).run Tryz.prog W = .ok (.agg #[.int .i64 a,.int .i64 b,.slice none 0 0]) W:=by kernel_rfl
theorem rtabP_new (w:World) (a b:Int):RTabP (w.alloc (.cells #[.int .i64 a,.int .i64 b,.slice none 0 0] 144)) w.heap.size a b w.heap.size (.slice none 0 0) [] []:=
 ⟨heap_alloc_new w _,Nat.le_refl _,RecT.Own.nil _ _,rfl,fun i x y hx=>by simp at hx⟩
set_option maxHeartbeats 800000 in
theorem RNew_ok (a b:Int) (w:World) (h:newOk a b = true):Calls Tryz.prog 58 #[.int .i64 a,.int .i64 b] w fun e w'=>∃ r,e = .returned (.tuple #[.pointer (some ⟨r,0,none⟩),.int .i64 0])∧RTabP w' r a b w.heap.size (.slice none 0 0) [] []∧Below w.heap.size w w':=by
 obtain ⟨h1,h2⟩:=newOk_iff.1 h
 have hb:=build_rtab a b
 have t1:¬ a < 1:=by omega
 have t2:¬ (1000:Int) < a:=by omega
 have t3:¬ b < 1:=by omega
 have t4:¬ (64:Int) < b:=by omega
 have HN:=Lib.hid (rtabP_new w a b)
 have HB:=Lib.hid ((Below.refl w.heap.size w).alloc (Nat.le_refl _) (.cells #[.int .i64 a,.int .i64 b,.slice none 0 0] 144))
 clear h h1 h2
 go_enter Tryz.func58,Tryz.ntmps58
 go_wp2
 go_ret2
 exact ⟨_,rfl,HN.out,HB.out⟩
set_option maxHeartbeats 800000 in
theorem RNew_bad (a b:Int) (w:World) (h:newOk a b = false):Calls Tryz.prog 58 #[.int .i64 a,.int .i64 b] w fun e w'=>e = .returned (.tuple #[.pointer none,.int .i64 1])∧w' = w:=by
 have hor:a < 1∨(¬ a < 1∧1000 < a)∨(¬ a < 1∧¬ 1000 < a∧b < 1)∨(¬ a < 1∧¬ 1000 < a∧¬ b < 1∧64 < b):=by
  have hn:¬ ((1 ≤ a∧a ≤ 1000)∧(1 ≤ b∧b ≤ 64)):=fun q=>by rw [newOk_iff.2 q] at h;cases h
  omega
 clear h
 rcases hor with h1 | ⟨h1,h2⟩ | ⟨h1,h2,h3⟩ | ⟨h1,h2,h3,h4⟩
 all_goals
  go_enter Tryz.func58,Tryz.ntmps58
  go_wp2
  go_ret2
  exact ⟨rfl,rfl⟩
end Go.Proofs.YtnohglkilpnjhaaGreatDoor
namespace Go.Proofs.YtnohglkilpnjhaaGreatDoor
open Go.RowKit
section
variable {ro:Option Nat} {m:Nat} {P:Program} {ops:Array Oper} {md:Region.Mode} {C:World→Prop} {D:Nat→Bool} {Q:Exit→Act→World→Prop}
def StepS (ro:Option Nat) (m:Nat) (P:Program) (md:Region.Mode) (ops:Array Oper) (C:World→Prop) (D:Nat→Bool) (Q:Exit→Act→World→Prop) (fuel:Nat) (listed:Array Bool) (p:Nat) (o:Oper) (a:Act) (w:World):Prop:=
 o.wp P a w (fun a' w'=>C w'∧wpAnyS ro m P md ops C D Q fuel (listed.setIfInBounds p true) a' w') Q
theorem wpOpIn_step (hnd:noDefer ops = true) {fuel p:Nat} {listed:Array Bool} {o:Oper} {a:Act} {w:World} (h0:ops[p]? = some o) (hg:o.guard = none) (h:StepS ro m P md ops C D Q fuel listed p o a w) :
  wpOpIn (WF ro) m P ops Q p (fun a' w'=>(D p = false→C w')∧wpAnyS ro m P md ops C D Q fuel (listed.setIfInBounds p true) a' w') a w:=by
 unfold wpOpIn
 simp only [h0]
 rw [if_pos (by simp [Region.wanted,hg])]
 exact wpIn_of_wp (noDefer_spec hnd h0) (Oper.wp_mono (fun a' w' h'=>⟨fun _=>h'.1,h'.2⟩) h)
theorem wpAnyS_one (hnd:noDefer ops = true) {fuel:Nat} {listed:Array Bool} {a:Act} {w:World} (p:Nat) {o:Oper} (h0:ops[p]? = some o) (hg:o.guard = none) (hr:Region.ready md ops listed = [p]) (h:StepS ro m P md ops C D Q fuel listed p o a w) :
  wpAnyS ro m P md ops C D Q (fuel + 1) listed a w:=by
 refine ⟨fun h1=>(by rw [hr] at h1;cases h1),fun i hi=>?_⟩
 rw [hr] at hi
 obtain rfl:i = p:=by simpa using hi
 exact wpOpIn_step hnd h0 hg h
theorem wpAnyS_two (hnd:noDefer ops = true) {fuel:Nat} {listed:Array Bool} {a:Act} {w:World} (p q:Nat) {o o2:Oper} (h0:ops[p]? = some o) (hg:o.guard = none) (h02:ops[q]? = some o2) (hg2:o2.guard = none) (hr:Region.ready md ops listed = [p,q])
  (h:StepS ro m P md ops C D Q fuel listed p o a w) (h2:StepS ro m P md ops C D Q fuel listed q o2 a w):wpAnyS ro m P md ops C D Q (fuel + 1) listed a w:=by
 refine ⟨fun h1=>(by rw [hr] at h1;cases h1),fun i hi=>?_⟩
 rw [hr] at hi
 simp only [List.mem_cons,List.not_mem_nil,or_false] at hi
 rcases hi with rfl | rfl
 ·exact wpOpIn_step hnd h0 hg h
 ·exact wpOpIn_step hnd h02 hg2 h2
theorem wpAnyS_pure (hnd:noDefer ops = true) (hsel:Region.noSelect ops = true) (hQ:∀ c (a:Act) (d:Option Tmp) (v:Value) w,Q (.panic c) (a.put d v) w→Q (.panic c) a w) {fuel:Nat} {listed:Array Bool} {a:Act} {w:World} (p:Nat) {o:Oper} (h0:ops[p]? = some o)
  (he:(earlyOp2 o && (Region.ready md ops listed).contains p && Region.free md ops listed p && D p) = true)
  (h:o.quiet P a (fun _=>True) (fun a'=>wpAnyS ro m P md ops C D Q fuel (listed.setIfInBounds p true) a' w)):wpAnyS ro m P md ops C D Q (fuel + 1) listed a w:=by
 simp only [Bool.and_eq_true] at he
 obtain ⟨⟨⟨he,hr⟩,hf⟩,hd⟩:=he
 obtain ⟨v,hv,hK⟩:=h
 exact wpAnyS_takeP hnd h0 (Region.noSelect_spec hsel) hQ hd fuel listed a w (Region.free_spec h0 hf) (by simpa using hr) (still_of_quiet2 he hv) hK
def stepB (l:List Oper) (D hs:List Nat) (g:Nat):Bool:=
 Region.noSelect l.toArray && noDefer l.toArray && decide (hs.length + g = l.length) && (D.all fun j=>decide (j < l.length)) && earlyI .any l.toArray (fun j=>D.contains j) hs (Array.replicate l.length false)
theorem wpIn_region_steps {id:Nat} {a:Act} {w:World} {l:List Oper} (D hs:List Nat) (g:Nat) (hm:P.follows .mixedOrders = true) (hB:stepB l D hs g = true)
  (hC:C { w with drawn:=w.drawn + 1 }) (hQ:∀ c (a:Act) (d:Option Tmp) (v:Value) w,Q (.panic c) (a.put d v) w→Q (.panic c) a w)
  (h:wpQuiet P l.toArray C (fun a'=>∀ w',C w'→wpAnyS ro m P .any l.toArray C (fun j=>D.contains j) Q g (listedI hs (Array.replicate l.length false)) a' w') (opsAt l hs) a) :
  (Code.region id l.toArray true).wpIn (WF ro) m P Q a w:=by
 simp only [stepB,Bool.and_eq_true,decide_eq_true_eq] at hB
 obtain ⟨⟨⟨⟨hsel,hnd⟩,hlen⟩,hlt⟩,hearly⟩:=hB
 have hsz:l.toArray.size = l.length:=by simp
 refine wpIn_region_any hm ?_
 rw [hsz,← hlen]
 refine wpAnyS_any (C:=C) (D:=fun j=>D.contains j) _ _ _ _ ?_
 refine wpAnyS_earlyI (R:=fun a'=>∀ w',C w'→wpAnyS ro m P .any l.toArray C (fun j=>D.contains j) Q g (listedI hs (Array.replicate l.length false)) a' w') hnd hsel hQ (fun j hj=>?_) hs (Array.replicate (hs.length + g) false) a _ (by simp [hlen]) (fun j oj _ hl=>(by rw [getD_replicate_false] at hl;cases hl)) hC (by rw [hlen];exact hearly) h (fun a' w' hw' hR=>?_)
 ·cases hc:D.contains j with
  | false=>rfl
  | true=>
   have:=List.all_eq_true.1 hlt j (by simpa using hc)
   simp only [decide_eq_true_eq] at this
   omega
 ·rw [hlen];exact hR w' hw'
end
end Go.Proofs.YtnohglkilpnjhaaGreatDoor
