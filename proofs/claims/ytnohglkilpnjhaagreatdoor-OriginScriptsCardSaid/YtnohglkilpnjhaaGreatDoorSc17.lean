/- Lemmas that the statement of this claim leans on; their own comments are taken out, for the size of the claim. No condition beyond what each lemma states. -/
import Derived.Test.YtnohglkilpnjhaaGreatDoorSc16
import Derived.Great.BuildSlice
import Derived.LoopNIn
import Derived.LoopIn
import Derived.BigFrameIn
import Derived.BigGuardIn
import Derived.Shelf.Abstract
import Derived.Shelf.RegionOpen
set_option linter.unusedVariables false
set_option linter.unusedSimpArgs false
set_option linter.unusedSectionVars false
namespace Go.Proofs.YtnohglkilpnjhaaGreatDoor
open Go.RowKit
set_option maxRecDepth 100000
section
variable {e se:TypeId} {α:Type} {R:RecT e α} {w:World}
theorem RecT.own_empty (R:RecT e α) (w:World):R.Own (w.alloc (.cells #[] e)) w.heap.size (.slice (some ⟨w.heap.size,0,none⟩) 0 0) []:=
 ⟨(fun x hx=>by cases hx),by simp [RecT.flat],.inr ⟨w.heap.size,0,#[],rfl,Nat.le_refl _,heap_alloc_new w _,Nat.le_refl _,by unfold maxLen;omega,by simp,by simp [RecT.flat]⟩⟩
theorem RecT.wp_build0 (R:RecT e α) (hs:Tryz.prog.underlying se = some (.slice e)) {o:Oper} {a:Act} {K:Act→World→Prop} {Q:Exit→Act→World→Prop} (ho:o.op = .buildSlice se 0 #[])
  (hK:∀ w',R.Own w' w.heap.size (.slice (some ⟨w.heap.size,0,none⟩) 0 0) []→Below w.heap.size w w'→w'.heap.size = w.heap.size + 1→K (a.put o.dst (.slice (some ⟨w.heap.size,0,none⟩) 0 0)) w'):o.wp Tryz.prog a w K Q:=by
 obtain ⟨i,hi,hz,hsize,hby⟩:=info_parts R.info
 have hrun:(Instr.buildSlice se 0 #[]).run Tryz.prog w = .ok (.slice (some ⟨w.heap.size,0,none⟩) 0 0) (w.alloc (.cells #[] e)):=by
  have h0:Array.range 0 = #[]:=by first | decide | simp | rfl
  simp [h0,Instr.buildSlice,run_underlying hs,sizeOf,typeInfo,hi,hsize,Instr.fill,newRow,Sem.run_bind,Sem.run_pure,Result.andThen]
 unfold Oper.wp execOp
 simp only [ho,List.map_toArray,List.map_nil,Sem.run_bind,hrun,Result.andThen_ok,Sem.run_pure]
 exact hK _ (RecT.own_empty R w) ((Below.refl _ w).alloc (Nat.le_refl _) _) (by simp)
end
set_option maxHeartbeats 1600000 in
theorem RCutPeer_any (v:Value) (l:List PeerL) (i:Nat) (w:World) (hl:RPeer.Row w v l) (hi:i < l.length) (hlen:l.length ≤ 100000) :
  Calls Tryz.prog 150 #[v,.int .i64 (i:Int)] w fun e w'=>∃ v',e = .returned v'∧RPeer.Own w' w.heap.size v' (l.take i ++ l.drop (i + 1))∧Below w.heap.size w w':=by
 obtain ⟨v1,hs1,hr1,_⟩:=hl.part Tryz.underlying71 .none (some (.int .i64 (i:Int))) 0 i (Nat.zero_le _) (by omega) (.inl ⟨rfl,rfl⟩) (.inr ⟨_,rfl⟩)
 obtain ⟨v2,hs2,hr2,_⟩:=hl.part Tryz.underlying71 (some (.int .i64 ((i + 1:Nat):Int))) .none (i + 1) l.length (by omega) (Nat.le_refl _) (.inr ⟨_,rfl⟩) (.inl ⟨rfl,rfl⟩)
 rw [List.drop_zero,Nat.sub_zero] at hr1
 rw [List.take_of_length_le (by simp)] at hr2
 rw [show ((i + 1:Nat):Int) = (i:Int) + 1 by omega] at hs2
 have hw:IntKind.i64.wrap ((i:Int) + 1) = (i:Int) + 1:=by rw [IntKind.wrap_i64];omega
 have HL:=Lib.hid hl
 have HR1:=Lib.hid hr1
 have HR2:=Lib.hid hr2
 have HI:=Lib.hid hi
 have HLEN:=Lib.hid hlen
 clear hl hr1 hr2 hi hlen
 go_enter Tryz.func150,Tryz.ntmps150
 go_upto_region 1 with (fail)
 refine (wpIn_wide (n:=5)).1 ?_
 refine wpIn_region_mix (ro:=none) (C:=Grew w) [1,2,3,5,6,7,8] [0,4] [9,10] (by kernel_rfl) (by kernel_rfl) (Grew.start _) (fun c a d v w h=>by cases d <;> exact h) ?_
 simp only [opsAt,List.flatMap_cons,List.flatMap_nil,List.getElem?_cons_zero,List.getElem?_cons_succ,Option.toList_some,List.cons_append,List.nil_append]
 go_simp
 repeat (first
  | (go_big_quiet_want;apply quiet_val;(intro w' hw';go_simp;first | done | rfl);go_simp;go_big_quiet_on)
  | (go_big_quiet_skip))
 refine wpQuiet_nil ?_
 intro w5 hw5
 have HR1':=Lib.hid (HR1.out.of_new hw5)
 have HR2':=Lib.hid (HR2.out.of_new hw5)
 refine LateL.cons rfl (RPeer.wp_build0 Tryz.underlying71 rfl ?_)
 intro w6 ho6 hb6 hs6
 have hw6:Grew w w6:=below_next hw5 hb6
 refine ⟨hw6,?_⟩
 refine LateL.cons rfl (ho6.app Tryz.underlying71 (.tmp 5) (.tmp 8) rfl rfl rfl (HR1'.out.of_new hb6) (by have:=HLEN.out;simp;omega) (by omega) ?_)
 intro v7 w7 ho7 hg7 hu7
 have hw7:Grew w w7:=below_next hw5 (hb6.grown hg7 (by omega) (fun k e=>by cases e;exact Nat.le_refl _))
 refine ⟨hw7,?_⟩
 refine LateL.nil ?_
 rw [wF_none]
 refine wpListIn_of_wp (ro:=none) rfl (fun c hc=>by cases hc) (ho7.app Tryz.underlying71 (.tmp 9) (.tmp 13) rfl rfl rfl (HR2.out.of_new hw7) (by have:=HLEN.out;simp;omega) (by have:=hw7.size;have:=hw5.size;have:=hg7.size;omega) ?_)
 intro v8 w8 ho8 hg8 hu8
 have hw8:Below w.heap.size w w8:=hw7.grown hg8 hw7.size (fun k e=>by have:=(ho7.lt k e).1;have:=hw5.size;omega)
 have ho8':RPeer.Own w8 w.heap.size v8 (l.take i ++ l.drop (i + 1)):=by
  have:=ho8.mono (base':=w.heap.size) hw5.size
  simpa using this
 have HO8:=Lib.hid ho8'
 have HW8:=Lib.hid hw8
 clear hw5 ho6 hb6 hs6 hw6 ho7 hg7 hu7 hw7 ho8 hg8 hu8 hw8 ho8'
 rw [wF_none]
 gi_wp2
 go_wp2
 go_ret
 exact ⟨_,rfl,HO8.out,HW8.out⟩
theorem cut_get {α:Type} {l:List α} {i:Nat} (h:i < l.length) (j:Nat):(l.take i ++ l.drop (i + 1))[j]? = if j < i then l[j]? else l[j + 1]?:=by
 rw [List.getElem?_append]
 have e:(l.take i).length = i:=by simp;omega
 rw [e]
 by_cases hj:j < i
 ·rw [if_pos hj,if_pos hj,List.getElem?_take,if_pos hj]
 ·rw [if_neg hj,if_neg hj,List.getElem?_drop]
  congr 1;omega
theorem map_cut {α β:Type} (f:α→β) (l:List α) (i:Nat):(l.take i ++ l.drop (i + 1)).map f = (l.map f).take i ++ (l.map f).drop (i + 1):=by
 rw [List.map_append,List.map_take,List.map_drop]
theorem RTabP.put {w w' W:World} {r B:Nat} {many most:Int} {v v':Value} {L L':RefL} {T T':TabL} (h:RTabP w r many most B v L T) (hw:Below w.heap.size w w') (ho:ROf.Own w' w.heap.size v' L') (hk:L'.map (·.1) = T'.map (·.1))
  (hr:∀ (i:Nat) (x:List UInt8 × Value) (y:List UInt8 × List PeerL),L'[i]? = some x→T'[i]? = some y→RPeer.Own w' B x.2 y.2) (hW:W = w'.setCell ⟨r,2,none⟩ v'):RTabP W r many most B v' L' T'∧RStp r v w W:=by
 have hlt:=h.lt
 have hBr:=h.base
 have hr1:w'.heap[r]? = some (.cells #[.int .i64 many,.int .i64 most,v] 144 (0,0)):=(hw.block _ hlt).trans h.tab
 have hoth:∀ k,k ≠ r→W.heap[k]? = w'.heap[k]?:=fun k hk=>by subst hW;exact Below.heap_setCell _ _ _ _ hk
 refine ⟨⟨?_,h.base,(ho.kept fun k e=>hoth k (fun q=>?_)).mono (by omega),hk,fun i x y hx hy=>(hr i x y hx hy).kept fun k e=>hoth k (fun q=>?_)⟩,?_⟩
 ·subst hW
  obtain ⟨hl,hkk⟩:=Array.getElem?_eq_some_iff.1 hr1
  show (w'.heap.modify r _)[r]? = _
  rw [Array.getElem?_eq_getElem (by rw [Array.size_modify];exact hl),Array.getElem_modify_self,hkk]
  rfl
 ·have:=(ho.lt k e).1;omega
 ·subst q
  obtain ⟨cur,h1⟩:=(hr i x y hx hy).block e
  rw [hr1] at h1;cases h1
 ·have h1:Kept (fun k=>k ≠ r∧v.ownBlock ≠ some k) w w':=(Kept.refl _ w).below hw
  refine ⟨?_,?_,?_,?_,fun k hk hu=>?_⟩
  ·subst hW;exact h1.os
  ·subst hW;exact h1.tape
  ·subst hW;exact h1.output
  ·subst hW;simpa using h1.size
  ·exact (hoth k hu.1).trans (h1.block k hk hu)
def RCutPost (w:World) (r:Nat) (many most:Int) (B:Nat) (v:Value) (T':TabL) (e:Ending) (w':World):Prop:=∃ v' L',e = .returned (.tuple #[])∧RTabP w' r many most B v' L' T'∧RStp r v w w'∧∀ k,v'.ownBlock = some k→w.heap.size ≤ k
set_option maxHeartbeats 1600000 in
theorem RCut_any (r:Nat) (many most:Int) (B:Nat) (v:Value) (L:RefL) (T:TabL) (i:Nat) (w:World) (hR:RTabP w r many most B v L T) (hi:i < T.length) (hlen:T.length ≤ 100000) :
  Calls Tryz.prog 153 #[.pointer (some ⟨r,0,none⟩),.int .i64 (i:Int)] w (RCutPost w r many most B v (T.take i ++ T.drop (i + 1))):=by
 have hLT:=hR.len
 have hl:=hR.own.row
 obtain ⟨v1,hs1,hr1,_⟩:=hl.part Tryz.underlying142 .none (some (.int .i64 (i:Int))) 0 i (Nat.zero_le _) (by omega) (.inl ⟨rfl,rfl⟩) (.inr ⟨_,rfl⟩)
 obtain ⟨v2,hs2,hr2,_⟩:=hl.part Tryz.underlying142 (some (.int .i64 ((i + 1:Nat):Int))) .none (i + 1) L.length (by omega) (Nat.le_refl _) (.inr ⟨_,rfl⟩) (.inl ⟨rfl,rfl⟩)
 rw [List.drop_zero,Nat.sub_zero] at hr1
 rw [List.take_of_length_le (by simp)] at hr2
 rw [show ((i + 1:Nat):Int) = (i:Int) + 1 by omega] at hs2
 have hw:IntKind.i64.wrap ((i:Int) + 1) = (i:Int) + 1:=by rw [IntKind.wrap_i64];omega
 have hc2:=fun w' (h:Grew w w')=>Grew.cell h hR.cell2
 have HR:=Lib.hid hR
 have HR1:=Lib.hid hr1
 have HR2:=Lib.hid hr2
 have HI:=Lib.hid hi
 have HLEN:=Lib.hid hlen
 have HLT:=Lib.hid hLT
 clear hR hl hr1 hr2 hi hlen hLT
 go_enter Tryz.func153,Tryz.ntmps153
 refine (wpIn_wide (n:=5)).1 ?_
 refine wpIn_region_mix (ro:=none) (C:=Grew w) [0,2,3,4,5,6,7,9,10,11,12,13,14,15] [1,8,16] [17,18,19] (by kernel_rfl) (by kernel_rfl) (Grew.start _) (fun c a d v w h=>by cases d <;> exact h) ?_
 simp only [opsAt,List.flatMap_cons,List.flatMap_nil,List.getElem?_cons_zero,List.getElem?_cons_succ,Option.toList_some,List.cons_append,List.nil_append]
 go_simp
 repeat (first
  | (go_big_quiet_want;apply quiet_val;(intro w' hw';go_simp;first | done | rfl);go_simp;go_big_quiet_on)
  | (go_big_quiet_skip))
 refine wpQuiet_nil ?_
 intro w5 hw5
 have HR1':=Lib.hid (HR1.out.of_new hw5)
 refine LateL.cons rfl (ROf.wp_build0 Tryz.underlying142 rfl ?_)
 intro w6 ho6 hb6 hs6
 have hw6:Grew w w6:=below_next hw5 hb6
 refine ⟨hw6,?_⟩
 refine LateL.cons rfl (ho6.app Tryz.underlying142 (.tmp 5) (.tmp 11) rfl rfl rfl (HR1'.out.of_new hb6) (by have:=HLEN.out;have:=HLT.out;simp;omega) (by omega) ?_)
 intro v7 w7 ho7 hg7 hu7
 have hw7:Grew w w7:=below_next hw5 (hb6.grown hg7 (by omega) (fun k e=>by cases e;exact Nat.le_refl _))
 refine ⟨hw7,?_⟩
 refine LateL.cons rfl (ho7.app Tryz.underlying142 (.tmp 12) (.tmp 19) rfl rfl rfl (HR2.out.of_new hw7) (by have:=HLEN.out;have:=HLT.out;simp;omega) (by have:=hw7.size;have:=hw5.size;have:=hg7.size;omega) ?_)
 intro v8 w8 ho8 hg8 hu8
 have hw8:Below w.heap.size w w8:=hw7.grown hg8 hw7.size (fun k e=>by have:=(ho7.lt k e).1;have:=hw5.size;omega)
 refine ⟨hw8,?_⟩
 refine LateL.nil ?_
 rw [wF_none]
 have ho8':ROf.Own w8 w.heap.size v8 (L.take i ++ L.drop (i + 1)):=by
  have:=ho8.mono (base':=w.heap.size) hw5.size
  simpa using this
 obtain ⟨L8,hL8⟩:∃ L8,L.take i ++ L.drop (i + 1) = L8:=⟨_,rfl⟩
 rw [hL8] at ho8'
 have HL8:=Lib.hid hL8
 obtain ⟨a8,n8,hv8⟩:=ho8'.row.len
 subst hv8
 have hr8:=HR.out.of_new hw8
 have c8:=hr8.cell2
 have f8:=hr8.free 2
 have HO8:=Lib.hid ho8'
 have HW8:=Lib.hid hw8
 have HR8:=Lib.hid hr8
 clear hL8 hw5 ho6 hb6 hs6 hw6 ho7 hg7 hu7 hw7 ho8 hg8 hu8 hw8 ho8' hr8 hc2
 gi_wp2
 generalize hW9:World.setCell w8 _ _ = w9
 have hfin:=HR.out.put (T':=T.take i ++ T.drop (i + 1)) HW8.out HO8.out (by rw [← HL8.out,map_cut,map_cut,HR.out.keys]) (fun j x y hx hy=>by
  rw [← HL8.out,cut_get (by rw [HLT.out];exact HI.out)] at hx
  rw [cut_get HI.out] at hy
  split at hx
  ·rename_i hj;rw [if_pos hj] at hy;exact HR8.out.rows j x y hx hy
  ·rename_i hj;rw [if_neg hj] at hy;exact HR8.out.rows (j + 1) x y hx hy) hW9.symm
 have HF:=Lib.hid hfin
 clear hW9 hfin c8 f8
 go_end0
 exact ⟨_,_,rfl,HF.out.1,HF.out.2,fun k e=>(HO8.out.lt k e).1⟩
theorem fill_step2 {place:Nat→Option (Nat × Nat)} {i:Nat} {v:Value} {rest:List (Nat × Value)} {cs:Array Value} (A M N B:List Value) (hcs:cs = (A ++ (M ++ B)).toArray) (hp:place i = some (A.length,M.length)) (hv:v.cells = N.toArray) (hn:N.length = M.length) :
  Instr.fill place cs ((i,v) :: rest) = Instr.fill place (A ++ (N ++ B)).toArray rest:=by
 subst hcs
 rw [Instr.fill]
 simp only [hp]
 rw [if_neg (by simp [hv,hn])]
 congr 1
 rw [hv]
 apply Array.ext_getElem?
 intro k
 have:=(Great.foldl_set A.length N 0 (A ++ (M ++ B)).toArray).2 k
 rw [← Array.foldl_toList,Array.toList_zipIdx,List.toList_toArray,this]
 simp only [Nat.add_zero,List.getElem?_toArray,List.size_toArray,List.length_append]
 by_cases h1:k < A.length
 ·rw [if_neg (by omega),List.getElem?_append_left h1,List.getElem?_append_left h1]
 ·by_cases h2:k < A.length + N.length
  ·rw [if_pos (by omega),List.getElem?_append_right (by omega),List.getElem?_append_left (by omega)]
  ·rw [if_neg (by omega),List.getElem?_append_right (by omega),List.getElem?_append_right (by omega),List.getElem?_append_right (by omega),List.getElem?_append_right (by omega),hn]
theorem places_of:∃ (i:TypeInfo) (fs:Array Field),Tryz.prog.info? 141 = some i∧i.zero = some (.agg (ROf.cells ROf.zero).toArray)∧Tryz.prog.underlying 141 = some (.struct fs) ∧
  fs.toList.mapM (fun f=>(Tryz.prog.info? f.type).map fun i=>(f.offset,i.size)) = some [(0,32),(32,1)]:=by
 have hz:(Tryz.prog.info? 141).map (·.zero) = some (some (.agg (ROf.cells ROf.zero).toArray)):=by kernel_rfl
 obtain ⟨i,hi,hz⟩:=Option.map_eq_some_iff.1 hz
 exact ⟨i,Tryz.prog.fieldsOf 141,hi,hz,by kernel_rfl,by kernel_rfl⟩
theorem run_build_of2 (d:List UInt8) (v:Value) (hd:d.length = 32) (hv:v.cells = #[v]) (w:World) :
  (Instr.build 141 #[(0,.agg (d.map B8).toArray),(1,v)]).run Tryz.prog w = .ok (ROf.V (d,v)) w:=by
 refine run_build w 141 _ _ ?_
 obtain ⟨i,fs,h1,h2,h3,h4⟩:=places_of
 unfold Program.built
 rw [h1,h3]
 simp only [h2,h4]
 have e0:(ROf.cells ROf.zero).toArray = ([] ++ (dig0.map B8 ++ [Value.slice none 0 0])).toArray:=rfl
 rw [show (Value.agg (ROf.cells ROf.zero).toArray).cells = (ROf.cells ROf.zero).toArray from rfl,e0]
 rw [fill_step2 [] (dig0.map B8) (d.map B8) _ (by first | rfl | simp) rfl rfl (by simp [hd,dig0])]
 rw [fill_step2 (d.map B8) [Value.slice none 0 0] [v] [] (by first | rfl | simp) (by simp [hd]) hv rfl]
 rfl
theorem run_build_of1 (d:List UInt8) (hd:d.length = 32) (w:World) :
  (Instr.build 141 #[(0,.agg (d.map B8).toArray)]).run Tryz.prog w = .ok (ROf.V (d,.slice none 0 0)) w:=by
 refine run_build w 141 _ _ ?_
 obtain ⟨i,fs,h1,h2,h3,h4⟩:=places_of
 unfold Program.built
 rw [h1,h3]
 simp only [h2,h4]
 have e0:(ROf.cells ROf.zero).toArray = ([] ++ (dig0.map B8 ++ [Value.slice none 0 0])).toArray:=rfl
 rw [show (Value.agg (ROf.cells ROf.zero).toArray).cells = (ROf.cells ROf.zero).toArray from rfl,e0]
 rw [fill_step2 [] (dig0.map B8) (d.map B8) _ (by first | rfl | simp) rfl rfl (by simp [hd,dig0])]
 rfl
theorem wp_build_of1 {w:World} {o:Oper} {a:Act} {K:Act→World→Prop} {Q:Exit→Act→World→Prop} {p:Operand} (d:List UInt8) (ho:o.op = .build 141 #[(0,p)])
  (hp:a.eval p = .agg (d.map B8).toArray) (hd:d.length = 32) (hK:K (a.put o.dst (ROf.V (d,.slice none 0 0))) w):o.wp Tryz.prog a w K Q:=by
 refine wp_val ?_ hK
 have:=run_build_of1 d hd w
 unfold execOp
 simp only [ho,List.map_toArray,List.map_cons,List.map_nil,hp,Sem.run_bind,this,Result.andThen_ok,Sem.run_pure]
theorem wp_build_of2 {w:World} {o:Oper} {a:Act} {K:Act→World→Prop} {Q:Exit→Act→World→Prop} {p q:Operand} (d:List UInt8) (v:Value) (ho:o.op = .build 141 #[(0,p),(1,q)])
  (hp:a.eval p = .agg (d.map B8).toArray) (hq:a.eval q = v) (hd:d.length = 32) (hv:v.cells = #[v]) (hK:K (a.put o.dst (ROf.V (d,v))) w):o.wp Tryz.prog a w K Q:=by
 refine wp_val ?_ hK
 have:=run_build_of2 d v hd hv w
 unfold execOp
 simp only [ho,List.map_toArray,List.map_cons,List.map_nil,hp,hq,Sem.run_bind,this,Result.andThen_ok,Sem.run_pure]
structure RSt (w:World) (r:Nat) (many most:Int) (B:Nat) (v:Value) (W:World) (v1:Value) (L1:RefL) (T1:TabL):Prop where
 tab:RTabP W r many most B v1 L1 T1
 step:RStp r v w W
 own:∀ k,v1.ownBlock = some k→v.ownBlock = some k∨w.heap.size ≤ k
section
variable {w W W':World} {r B:Nat} {many most:Int} {v v1 v2:Value} {L L1 L2:RefL} {T T1 T2:TabL}
theorem RSt.start (h:RTabP w r many most B v L T):RSt w r many most B v w v L T:=⟨h,Kept.refl _ _,fun k e=>.inl e⟩
theorem RSt.new (h:RSt w r many most B v W v1 L1 T1) (hb:Below W.heap.size W W'):RSt w r many most B v W' v1 L1 T1:=⟨h.tab.of_new hb,Kept.below h.step hb,h.own⟩
theorem RSt.next (h:RSt w r many most B v W v1 L1 T1) (ht:RTabP W' r many most B v2 L2 T2) (hs:RStp r v1 W W') (ho:∀ k,v2.ownBlock = some k→v1.ownBlock = some k∨W.heap.size ≤ k):RSt w r many most B v W' v2 L2 T2:=by
 refine ⟨ht,⟨hs.os.trans h.step.os,hs.tape.trans h.step.tape,hs.output.trans h.step.output,Nat.le_trans h.step.size hs.size,fun k hk hu=>?_⟩,fun k e=>?_⟩
 ·refine (hs.block k (Nat.lt_of_lt_of_le hk h.step.size) ⟨hu.1,fun e=>?_⟩).trans (h.step.block k hk hu)
  rcases h.own k e with h1 | h1
  ·exact hu.2 h1
  ·omega
 ·rcases ho k e with h1 | h1
  ·exact h.own k h1
  ·exact .inr (Nat.le_trans h.step.size h1)
theorem RSt.put (h:RSt w r many most B v W v1 L1 T1) (hw:Below W.heap.size W W') {v2:Value} {L2:RefL} {T2:TabL} (ho:ROf.Own W' W.heap.size v2 L2) (hk:L2.map (·.1) = T2.map (·.1))
  (hr:∀ (i:Nat) (x:List UInt8 × Value) (y:List UInt8 × List PeerL),L2[i]? = some x→T2[i]? = some y→RPeer.Own W' B x.2 y.2):RSt w r many most B v (W'.setCell ⟨r,2,none⟩ v2) v2 L2 T2:=by
 obtain ⟨h1,h2⟩:=h.tab.put hw ho hk hr rfl
 exact h.next h1 h2 fun k e=>.inr (ho.lt k e).1
theorem RSt.set {g1 n1 c1 i:Nat} {d:List UInt8} {u0 u:Value} {ps q:List PeerL} (h:RSt w r many most B v W (.slice (some ⟨g1,0,none⟩) n1 c1) L1 T1) (hi:L1[i]? = some (d,u0)) (hT:T1[i]? = some (d,ps)) (hu:RPeer.Own W B u q) :
  RSt w r many most B v (W.setCell ⟨g1,i * 33 + 32,none⟩ u) (.slice (some ⟨g1,0,none⟩) n1 c1) (L1.set i (d,u)) (T1.set i (d,q)):=by
 obtain ⟨ho,hg⟩:=ROf.set h.tab.own (u:=u) hi hu.one
 obtain ⟨cur,hcur⟩:=h.tab.own.block (k:=g1) rfl
 have hoth:∀ k,k ≠ g1→(W.setCell ⟨g1,i * 33 + 32,none⟩ u).heap[k]? = W.heap[k]?:=fun k hk=>Below.heap_setCell _ _ _ _ hk
 have hne:∀ {x:Value} {y:List PeerL},RPeer.Own W B x y→RPeer.Own (W.setCell ⟨g1,i * 33 + 32,none⟩ u) B x y:=fun {x y} hx=>hx.kept fun k e=>hoth k fun q=>by
  subst q
  obtain ⟨cur2,h2⟩:=hx.block e
  rw [hcur] at h2;cases h2
 refine h.next ⟨(hoth r (h.tab.ne rfl).symm).trans h.tab.tab,h.tab.base,ho,?_,fun j x y hx hy=>?_⟩ ⟨rfl,rfl,rfl,by simp,fun k hk hu2=>hoth k fun q=>hu2.2 (by rw [q];rfl)⟩ (fun k e=>.inl e)
 ·rw [List.map_set,List.map_set,h.tab.keys]
 ·by_cases hj:i = j
  ·subst hj
   have hil:i < L1.length:=(List.getElem?_eq_some_iff.1 hi).1
   have hil2:i < T1.length:=(List.getElem?_eq_some_iff.1 hT).1
   rw [List.getElem?_set_self hil] at hx
   rw [List.getElem?_set_self hil2] at hy
   cases hx;cases hy
   exact hne hu
  ·rw [List.getElem?_set_ne hj] at hx hy
   exact hne (h.tab.rows j x y hx hy)
theorem RTabP.val (h:RTabP w r many most B v1 L1 T1) {i:Nat} {d:List UInt8} {ps:List PeerL} (hi:T1[i]? = some (d,ps)):∃ u,L1[i]? = some (d,u)∧RPeer.Own w B u ps:=by
 have hl:i < L1.length:=by rw [h.len];exact (List.getElem?_eq_some_iff.1 hi).1
 obtain ⟨x,hx⟩:∃ x,L1[i]? = some x:=⟨_,List.getElem?_eq_getElem hl⟩
 have h1:=h.fst hx hi
 obtain ⟨xd,xv⟩:=x
 cases h1
 exact ⟨xv,hx,h.rows i _ _ hx hi⟩
theorem RTabP.form (h:RTabP w r many most B v1 L1 T1) (h0:0 < T1.length):∃ g c,v1 = .slice (some ⟨g,0,none⟩) T1.length c∧B ≤ g∧g < w.heap.size∧g ≠ r∧(∀ j,w.frozen? ⟨g,j,none⟩ = false)∧∀ i x,L1[i]? = some x→ROf.At w g (i * 33) x:=by
 obtain ⟨g,c,hv,h1,h2⟩:=h.own.form (by rw [h.len];exact h0)
 rw [h.len] at hv
 obtain ⟨cur,hcur⟩:=h.own.block (k:=g) (by rw [hv];rfl)
 refine ⟨g,c,hv,h1,h2,h.ne (by rw [hv];rfl),fun j=>by simp [World.frozen?,hcur],fun i x hx=>?_⟩
 obtain ⟨b,off,c',hv2,_,hat⟩:=h.own.row.at_ (by rw [h.len];exact h0)
 rw [hv] at hv2
 have hq:=(Value.slice.inj hv2).1
 cases hq
 have:=hat i x hx
 rwa [Nat.zero_add] at this
theorem RTabP.entry {g n c i:Nat} {d:List UInt8} {ps:List PeerL} (h:RTabP w r many most B (.slice (some ⟨g,0,none⟩) n c) L1 T1) (hi:T1[i]? = some (d,ps)) :
  ∃ a k,L1[i]? = some (d,.slice a ps.length k)∧RPeer.Own w B (.slice a ps.length k) ps∧w.cell? ⟨g,i * 33 + 32,none⟩ = some (.slice a ps.length k)∧w.frozen? ⟨g,i * 33 + 32,none⟩ = false∧i < n∧n = T1.length:=by
 obtain ⟨u,hu,hrow⟩:=h.val hi
 obtain ⟨a,k,hv⟩:=hrow.row.len
 subst hv
 have hil:i < T1.length:=(List.getElem?_eq_some_iff.1 hi).1
 obtain ⟨g',c',hv',_,_,_,hfz,hat⟩:=h.form (by omega)
 have e1:=(Value.slice.inj hv').1
 have e2:=(Value.slice.inj hv').2.1
 cases e1
 exact ⟨a,k,hu,hrow,ROf_val (hat i _ hu),hfz _,by omega,e2⟩
theorem set_same {α:Type} {l:List α} {i:Nat} {x:α} (h:l[i]? = some x):l.set i x = l:=(set_split h x).trans (split_at h).symm
end
def RPost (w:World) (r:Nat) (many most:Int) (B:Nat) (v:Value) (T':TabL) (u:Value) (e:Ending) (w':World):Prop:=
 ∃ v' L',e = .returned u∧RTabP w' r many most B v' L' T'∧RStp r v w w'
end Go.Proofs.YtnohglkilpnjhaaGreatDoor
namespace Go.Proofs.YtnohglkilpnjhaaGreatDoor
open Go.RowKit
set_option maxRecDepth 100000 in
set_option maxHeartbeats 800000 in
theorem BlClone_any (v:Value) (l:List BlobL) (w:World) (hl:RBlob.Row w v l) (hlen:l.length ≤ 1000000) :
  Calls Tryz.prog 53 #[v] w fun e w'=>∃ v',e = .returned v'∧RBlob.Own w' w.heap.size v' l∧Below w.heap.size w w':=by
 obtain ⟨a,c,hv⟩:=hl.len
 have he:=fun (w:World) (a:Option Addr) (n c:Nat)=>Lib.run_eql_slice_nil (P:=Tryz.prog) w 50 81 a n c 0 0 Tryz.underlying50
 cases a with
 | none=>
  have hl0:l = []:=by
   obtain ⟨_,_,a',c',hv',h1,_,h3,_⟩:=hl
   rw [hv'] at hv;cases hv
   have:=h3 rfl
   exact List.eq_nil_of_length_eq_zero (by omega)
  subst hl0
  have hc:c = 0:=by
   obtain ⟨_,_,a',c',hv',h1,_,h3,_⟩:=hl
   rw [hv'] at hv;cases hv
   exact h3 rfl
  subst hc
  subst hv
  go_enter Tryz.func53,Tryz.ntmps53
  go_wp2
  go_ret
  exact ⟨_,rfl,RecT.Own.nil _ _,Below.refl _ _⟩
 | some a=>
  subst hv
  have HO:=Lib.hid (show RBlob.Own (w.alloc (.cells #[] 81)) w.heap.size (.slice (some ⟨w.heap.size,0,none⟩) 0 0) [] from ⟨(fun _ h=>by cases h),World.ownsRow_made w #[] 0 (Nat.le_refl _) (by unfold maxLen;omega) rfl⟩)
  have HL:=Lib.hid (hl.of_new ((Below.refl _ w).alloc (Nat.le_refl _) (.cells #[] 81)))
  clear hl
  go_enter Tryz.func53,Tryz.ntmps53
  go_wp2_with ((with_reducible refine wpList_plain (o:=⟨some 7,_,_,_,_,_⟩) rfl fun K hK=>?_);(refine HO.out.app Tryz.underlying50 (.tmp 5) (.tmp 6) rfl rfl rfl HL.out (by simp;omega) (by simp) fun v1 w1 hown1 hg1 _=>hK _ _ ?_);have HW1:=Lib.hid hown1;have hbA:Below w.heap.size w w1:=((Below.refl _ w).alloc (Nat.le_refl _) _).grown hg1 (by simp) (fun j hj=>by cases hj;exact Nat.le_refl _);have HBA:=Lib.hid hbA;clear hown1 hg1 hbA)
  go_ret
  exact ⟨_,rfl,by simpa using HW1.out,HBA.out⟩
section
variable {ro:Option Nat} {m:Nat} {P:Program} {ops:Array Oper} {md:Region.Mode} {C:World→Prop} {D:Nat→Bool} {Q:Exit→Act→World→Prop}
theorem wpAnyS_takeP {i:Nat} {oi:Oper} {v:Value} (hnd:noDefer ops = true) (hi:ops[i]? = some oi) (hsel:∀ (j:Nat) (o:Oper) cs b,ops[j]? = some o→o.op ≠ .select cs b)
  (hQ:∀ c (a:Act) (d:Option Tmp) (v:Value) w,Q (.panic c) (a.put d v) w→Q (.panic c) a w) (hDi:D i = true) :
  ∀ (fuel:Nat) (listed:Array Bool) (a:Act) (w:World),
   (∀ j oj,ops[j]? = some oj→j ≠ i→listed.getD j true = false→(∀ e ∈ oj.after,Region.binds md e = true→e.on ≠ i)→oi.apart ops oj = true) →
   i ∈ Region.ready md ops listed→StillIn P ops (fun _=>True) oi v a →
   wpAnyS ro m P md ops C D Q fuel (listed.setIfInBounds i true) (a.put oi.dst v) w→wpAnyS ro m P md ops C D Q (fuel + 1) listed a w:=by
 intro fuel
 induction fuel with
 | zero=>
  intro listed a w _ hr hy H
  refine ⟨fun h=>(by rw [h] at hr;cases hr),fun j hj=>?_⟩
  by_cases hji:j = i
  ·subst hji;exact hy.wpOpIn hnd hi trivial ⟨fun h=>(by rw [hDi] at h;cases h),H⟩
  ·have:=ready_mono hj hji
   rw [H.1] at this
   cases this
 | succ fuel ih=>
  intro listed a w hfree hr hy H
  refine ⟨fun h=>(by rw [h] at hr;cases hr),fun j hj=>?_⟩
  by_cases hji:j = i
  ·subst hji;exact hy.wpOpIn hnd hi trivial ⟨fun h=>(by rw [hDi] at h;cases h),H⟩
  ·have h1:=H.2 j (ready_mono hj hji)
   obtain ⟨hjun,oj,hoj,hall⟩:=mem_ready.1 hj
   have h0:=(mem_ready.1 hr).1
   have h0f:listed.getD i false = false:=getD_both h0
   have hnot:∀ e ∈ oj.after,Region.binds md e = true→e.on ≠ i:=fun e he hb heq=>by
    have h1:=hall e he hb
    rw [heq,h0f] at h1
    cases h1
   have h2:=wpOpIn_putS (C:=fun _=>True) hnd hoj (hfree j oj hoj hji hjun hnot) (fun cs b=>hsel i oi cs b hi) (fun cs b=>hsel j oj cs b hoj) (fun c a w h=>hQ c _ _ _ w h) hy h1
   have hfree':∀ k ok,ops[k]? = some ok→k ≠ i→(listed.setIfInBounds j true).getD k true = false →
     (∀ e ∈ ok.after,Region.binds md e = true→e.on ≠ i)→oi.apart ops ok = true:=fun k ok hk hki hun hno=>by
    refine hfree k ok hk hki ?_ hno
    by_cases hjk:j = k
    ·subst hjk;exact hjun
    ·rw [getD_set_ne true hjk] at hun;exact hun
   refine wpOpIn_mono (fun a' w' h3=>⟨h3.2.1,ih (listed.setIfInBounds j true) a' w' hfree' (ready_mono hr (Ne.symm hji)) h3.1 ?_⟩) h2
   rw [Array.setIfInBounds_comm _ _ hji]
   exact h3.2.2
def pureI (md:Region.Mode) (ops:Array Oper) (D:Nat→Bool):List Nat→Array Bool→Bool
 | [],_=>true
 | p :: ps,listed=>(Region.ready md ops listed).contains p && Region.free md ops listed p && (match ops[p]? with | some o=>earlyOp2 o | none=>false) && D p && pureI md ops D ps (listed.setIfInBounds p true)
theorem wpAnyS_pureI (hnd:noDefer ops = true) (hsel:Region.noSelect ops = true) (hQ:∀ c (a:Act) (d:Option Tmp) (v:Value) w,Q (.panic c) (a.put d v) w→Q (.panic c) a w) {R:Act→Prop} {g:Nat} (ps:List Nat) :
  ∀ (listed:Array Bool) (a:Act) (w:World),C w→pureI md ops D ps listed = true →
   wpQuiet P ops (fun _=>True) R (opsAt ops.toList ps) a→(∀ a' w,C w→R a'→wpAnyS ro m P md ops C D Q g (listedI ps listed) a' w)→wpAnyS ro m P md ops C D Q (ps.length + g) listed a w:=by
 induction ps with
 | nil=>
  intro listed a w hC _ h hL
  rw [List.length_nil,Nat.zero_add]
  exact hL a w hC h
 | cons p ps ih=>
  intro listed a w hC hB h hL
  simp only [pureI,Bool.and_eq_true] at hB
  obtain ⟨⟨⟨⟨hr,hf⟩,he⟩,hd⟩,hB⟩:=hB
  have hr':p ∈ Region.ready md ops listed:=by simpa using hr
  obtain ⟨o,h0⟩:∃ o,ops[p]? = some o:=by
   cases q:ops[p]? with
   | some o=>exact ⟨o,rfl⟩
   | none=>rw [q] at he;cases he
  rw [h0] at he
  rw [opsAt_cons (o:=o) (by simpa using h0)] at h
  have hg:o.guard = none:=by
   have:=he
   unfold earlyOp2 at this
   simp only [Bool.and_eq_true,Option.isNone_iff_eq_none] at this
   exact this.1
  have hq:o.quiet P a (fun _=>True) (wpQuiet P ops (fun _=>True) R (opsAt ops.toList ps)):=by
   have h':if Region.wanted o (yielded ops a.tmps) then o.quiet P a (fun _=>True) (wpQuiet P ops (fun _=>True) R (opsAt ops.toList ps)) else wpQuiet P ops (fun _=>True) R (opsAt ops.toList ps) (a.put o.dst undef):=h
   rwa [if_pos (by simp [Region.wanted,hg])] at h'
  obtain ⟨v,hv,hK⟩:=hq
  rw [List.length_cons,show ps.length + 1 + g = (ps.length + g) + 1 by omega]
  refine wpAnyS_takeP hnd h0 (Region.noSelect_spec hsel) hQ hd (ps.length + g) listed a w (Region.free_spec h0 hf) hr' (still_of_quiet2 he hv) ?_
  exact ih _ _ w hC hB hK hL
def mix2B (l:List Oper) (hs hp ts1 ts2:List Nat):Bool:=
 Region.noSelect l.toArray && noDefer l.toArray && decide (hs.length + (hp.length + (ts1.length + ts2.length)) = l.length) && ((hp ++ ts2).all fun j=>decide (j < l.length)) &&
  earlyI .any l.toArray (fun j=>(hp ++ ts2).contains j) hs (Array.replicate l.length false) && pureI .any l.toArray (fun j=>(hp ++ ts2).contains j) hp (listedI hs (Array.replicate l.length false)) &&
  seqI .any l.toArray (ts1 ++ ts2) (listedI hp (listedI hs (Array.replicate l.length false)))
theorem wpIn_region_mix2 {id:Nat} {a:Act} {w:World} {l:List Oper} (hs hp ts1 ts2:List Nat) (hm:P.follows .mixedOrders = true) (hB:mix2B l hs hp ts1 ts2 = true)
  (hC:C { w with drawn:=w.drawn + 1 }) (hQ:∀ c (a:Act) (d:Option Tmp) (v:Value) w,Q (.panic c) (a.put d v) w→Q (.panic c) a w)
  (h:wpQuiet P l.toArray C (fun a'=>wpQuiet P l.toArray (fun _=>True) (fun a''=>∀ w',C w'→LateL ro m P l.toArray C Q (opsAt l ts1) (opsAt l ts2) a'' w') (opsAt l hp) a') (opsAt l hs) a) :
  (Code.region id l.toArray true).wpIn (WF ro) m P Q a w:=by
 simp only [mix2B,Bool.and_eq_true,decide_eq_true_eq] at hB
 obtain ⟨⟨⟨⟨⟨⟨hsel,hnd⟩,hlen⟩,hlt⟩,hearly⟩,hpure⟩,hseq⟩:=hB
 have hsz:l.toArray.size = l.length:=by simp
 refine wpIn_region_any hm ?_
 rw [hsz,← hlen]
 refine wpAnyS_any (C:=C) (D:=fun j=>(hp ++ ts2).contains j) _ _ _ _ ?_
 refine wpAnyS_earlyI (R:=fun a'=>wpQuiet P l.toArray (fun _=>True) (fun a''=>∀ w',C w'→LateL ro m P l.toArray C Q (opsAt l ts1) (opsAt l ts2) a'' w') (opsAt l hp) a') hnd hsel hQ (fun j hj=>?_) hs (Array.replicate (hs.length + (hp.length + (ts1.length + ts2.length))) false) a _ (by simp [hlen]) (fun j oj _ hl=>(by rw [getD_replicate_false] at hl;cases hl)) hC (by rw [hlen];exact hearly) h (fun a' w' hw' hR=>?_)
 ·cases hc:(hp ++ ts2).contains j with
  | false=>rfl
  | true=>
   have:=List.all_eq_true.1 hlt j (by simpa using hc)
   simp only [decide_eq_true_eq] at this
   omega
 ·refine wpAnyS_pureI (R:=fun a''=>∀ w',C w'→LateL ro m P l.toArray C Q (opsAt l ts1) (opsAt l ts2) a'' w') hnd hsel hQ hp _ a' w' hw' (by rw [hlen];exact hpure) hR (fun a2 w2 hw2 hR2=>?_)
  exact wpAnyS_lateI hnd ts1 ts2 _ a2 w2 (fun j hj=>by simp [hj]) (by rw [hlen];exact hseq) hw2 (hR2 w2 hw2)
end
end Go.Proofs.YtnohglkilpnjhaaGreatDoor
namespace Go.Proofs.YtnohglkilpnjhaaGreatDoor
theorem peersT_mid {X B:TabL} {d:List UInt8} {P:List PeerL} (h:Rising kD (X ++ (d,P) :: B)):peersT d (X ++ (d,P) :: B) = P:=peersT_mem h (x:=(d,P)) (by simp)
theorem leave_mid {X B:TabL} {d:List UInt8} {C R:List PeerL} {p:PeerL} (h:Rising kD (X ++ (d,C ++ p :: R) :: B)) (hp:Rising PeerL.id (C ++ p :: R)) :
  leaveT (X ++ (d,C ++ p :: R) :: B) d p.id = (X ++ oneT d (C ++ R) ++ B,0):=by
 unfold leaveT
 rw [peersT_mid h,getK_mid hp,delK_mid hp]
 show (backT d (C ++ R) (X ++ (d,C ++ p :: R) :: B),(0:Int)) = _
 unfold backT oneT
 by_cases h0:C ++ R = []
 ·rw [if_pos h0,if_pos h0]
  have:=delK_mid (f:=kD) h
  have e:kD (d,C ++ p :: R) = (natL d:Int):=rfl
  rw [e] at this
  rw [this];simp
 ·rw [if_neg h0,if_neg h0,insK_mid (f:=kD) (x:=(d,C ++ R)) h rfl]
  simp
theorem liveT_append (now:Int):∀ (A B:TabL),liveT now (A ++ B) = liveT now A ++ liveT now B
 | [],B=>rfl
 | x :: A,B=>by simp only [List.cons_append,liveT,liveT_append now A B,List.append_assoc]
theorem goneN_append (now:Int):∀ (A B:TabL),goneN now (A ++ B) = goneN now A + goneN now B
 | [],B=>by simp [goneN]
 | x :: A,B=>by simp only [List.cons_append,goneN,goneN_append now A B];omega
theorem liveP_append (now:Int) (a b:List PeerL):liveP now (a ++ b) = liveP now a ++ liveP now b:=by simp [liveP]
theorem liveP_len (now:Int) (a:List PeerL):(liveP now a).length ≤ a.length:=List.length_filter_le _ _
def midT (now:Int) (A:TabL) (d:List UInt8) (a b:List PeerL) (B:TabL):TabL:=liveT now A ++ oneT d (liveP now a ++ b) ++ B
def midN (now:Int) (A:TabL) (a:List PeerL):Nat:=goneN now A + (a.length - (liveP now a).length)
theorem midT_cons {now:Int} {A B:TabL} {d:List UInt8} {a b:List PeerL} {p:PeerL}:midT now A d a (p :: b) B = liveT now A ++ (d,liveP now a ++ p :: b) :: B:=by
 unfold midT oneT
 rw [if_neg (by simp)]
 simp
theorem midT_gone {now:Int} {A B:TabL} {d:List UInt8} {a b:List PeerL} {p:PeerL} (h:Rising kD (midT now A d a (p :: b) B)) (hp:Rising PeerL.id (liveP now a ++ p :: b)) (ht:p.till ≤ now) :
  leaveT (midT now A d a (p :: b) B) d p.id = (midT now A d (a ++ [p]) b B,0)∧midN now A (a ++ [p]) = midN now A a + 1:=by
 have hl:liveP now (a ++ [p]) = liveP now a:=by rw [liveP_append];simp [liveP];omega
 constructor
 ·rw [midT_cons] at h ⊢
  rw [leave_mid h hp]
  unfold midT
  rw [hl]
 ·unfold midN
  rw [hl]
  have:=liveP_len now a
  simp
  omega
theorem midT_stay {now:Int} {A B:TabL} {d:List UInt8} {a b:List PeerL} {p:PeerL} (ht:now < p.till) :
  midT now A d (a ++ [p]) b B = midT now A d a (p :: b) B∧midN now A (a ++ [p]) = midN now A a:=by
 have hl:liveP now (a ++ [p]) = liveP now a ++ [p]:=by rw [liveP_append];simp [liveP];omega
 constructor
 ·unfold midT;rw [hl];simp
 ·unfold midN;rw [hl];simp
theorem midT_start {now:Int} {A B:TabL} {d:List UInt8} {P:List PeerL} (h:P ≠ []):midT now A d [] P B = liveT now A ++ (d,P) :: B∧midN now A [] = goneN now A:=by
 unfold midT midN oneT
 simp [liveP,h]
theorem midT_end {now:Int} {A B:TabL} {d:List UInt8} {P:List PeerL}:midT now A d P [] B = liveT now (A ++ [(d,P)]) ++ B∧midN now A P = goneN now (A ++ [(d,P)]):=by
 constructor
 ·unfold midT
  rw [liveT_append]
  simp [liveT]
 ·unfold midN
  rw [goneN_append]
  simp [goneN]
theorem gone_le2 (now:Int):∀ (T:TabL) (m:Nat),(∀ x ∈ T,x.2.length ≤ m)→goneN now T ≤ T.length * m
 | [],m,_=>by simp [goneN]
 | x :: T,m,h=>by
  have h1:=gone_le2 now T m (fun y hy=>h y (by simp [hy]))
  have h2:=h x (by simp)
  simp only [goneN,List.length_cons,Nat.add_mul,Nat.one_mul]
  omega
theorem goneN_take (now:Int) (T:TabL) (i:Nat):goneN now (T.take i) ≤ goneN now T:=by
 have:=goneN_append now (T.take i) (T.drop i)
 rw [List.take_append_drop] at this
 omega
end Go.Proofs.YtnohglkilpnjhaaGreatDoor
namespace Go.Proofs.YtnohglkilpnjhaaGreatDoor
open Go.RowKit
set_option maxRecDepth 100000
def MemL.cells (x:MemL):List Value:=[.int .i64 x.id,.int .i64 x.inc,.int .i64 x.state,.int .i64 x.since]
def MemL.ok (x:MemL):Prop:=inI64 x.id∧inI64 x.inc∧inI64 x.state∧inI64 x.since
def flatM (l:List MemL):List Value:=l.flatMap MemL.cells
theorem flatM_len (l:List MemL):(flatM l).length = l.length * 4:=by
 induction l with
 | nil=>rfl
 | cons x r ih=>simp only [flatM,List.flatMap_cons,List.length_append,List.length_cons] at *;rw [ih];simp [MemL.cells];omega
def mem0:MemL:=⟨0,0,0,0⟩
theorem flatM_at:∀ {l:List MemL} {i:Nat} (hi:i < l.length),(flatM l)[i * 4]? = some (.int .i64 (l.getD i mem0).id)∧(flatM l)[i * 4 + 1]? = some (.int .i64 (l.getD i mem0).inc)∧(flatM l)[i * 4 + 2]? = some (.int .i64 (l.getD i mem0).state)∧(flatM l)[i * 4 + 3]? = some (.int .i64 (l.getD i mem0).since)
 | [],i,hi=>by simp at hi
 | x :: r,0,_=>⟨rfl,rfl,rfl,rfl⟩
 | x :: r,i + 1,hi=>by
  have ih:=flatM_at (l:=r) (i:=i) (by simpa using hi)
  have e:∀ j,(flatM (x :: r))[(i + 1) * 4 + j]? = (flatM r)[i * 4 + j]?:=fun j=>by
   show (x.cells ++ flatM r)[(i + 1) * 4 + j]? = _
   rw [List.getElem?_append_right (by simp [MemL.cells];omega)]
   congr 1
   simp [MemL.cells];omega
  have e0:=e 0
  rw [Nat.add_zero,Nat.add_zero] at e0
  rw [e0,e 1,e 2,e 3]
  exact ih
def Mems (w:World) (v:Value) (l:List MemL):Prop:=Row w v l.length 4 (flatM l)
theorem Mems.len {w:World} {v:Value} {l:List MemL} (h:Mems w v l):∃ a c,v = .slice a l.length c:=h.shape
theorem Mems.le {w:World} {v:Value} {l:List MemL} (h:Mems w v l):l.length ≤ 9223372036854775807:=Row.le h
theorem Mems.of_new {w w':World} {v:Value} {l:List MemL} (h:Mems w v l) (hg:Below w.heap.size w w'):Mems w' v l:=Row.of_new h hg
def MemAt (w:World) (g off:Nat) (x:MemL):Prop:=w.cell? ⟨g,off,none⟩ = some (.int .i64 x.id)∧w.cell? ⟨g,off + 1,none⟩ = some (.int .i64 x.inc)∧w.cell? ⟨g,off + 2,none⟩ = some (.int .i64 x.state)∧w.cell? ⟨g,off + 3,none⟩ = some (.int .i64 x.since)
theorem MemAt.lt {w:World} {g off:Nat} {x:MemL} (h:MemAt w g off x):g < w.heap.size:=World.block_lt_of_cell? _ _ h.1
theorem MemAt.of_new {w w':World} {g off:Nat} {x:MemL} (h:MemAt w g off x) (hg:Below w.heap.size w w'):MemAt w' g off x:=
 ⟨(hg.cell (p:=⟨g,off,none⟩) h.lt).trans h.1,(hg.cell (p:=⟨g,off + 1,none⟩) h.lt).trans h.2.1,(hg.cell (p:=⟨g,off + 2,none⟩) h.lt).trans h.2.2.1,(hg.cell (p:=⟨g,off + 3,none⟩) h.lt).trans h.2.2.2⟩
theorem Mems.cell {w:World} {v:Value} {l:List MemL} (h:Mems w v l) (h0:0 < l.length):∃ b off c,v = .slice (some ⟨b,off,none⟩) l.length c∧b < w.heap.size∧∀ j,j < l.length→MemAt w b (off + j * 4) (l.getD j mem0):=by
 obtain ⟨_,a,c,rfl,_,_,_,h5⟩:=h
 obtain ⟨b,off,rfl,hb,hc⟩:=h5 (by omega)
 refine ⟨b,off,c,rfl,hb,fun j hj=>?_⟩
 obtain ⟨e0,e1,e2,e3⟩:=flatM_at hj
 have h0:=hc (j * 4) (by omega)
 have h1:=hc (j * 4 + 1) (by omega)
 have h2:=hc (j * 4 + 2) (by omega)
 have h3:=hc (j * 4 + 3) (by omega)
 rw [e0] at h0
 rw [e1] at h1
 rw [e2] at h2
 rw [e3] at h3
 exact ⟨h0,h1,h2,h3⟩
structure MsgS where
 vi:Value
 vb:Value
 vp:Value
 vm:Value
def msgCells (m:MsgL) (s:MsgS):List Value:=.int .i64 m.kind :: (m.hash.map B8 ++ [.int .i64 m.piece,s.vi,s.vb,s.vp,s.vm,.bool m.seed])
structure MsgR (w:World) (m:MsgL) (s:MsgS):Prop where
 hash:m.hash.length = 32
 ids:Ints w s.vi m.ids
 bytes:Bytes w s.vb m.bytes
 proof:Digs w s.vp m.proof
 members:Mems w s.vm m.members
structure MsgL.ok (m:MsgL):Prop where
 kind:inI64 m.kind
 piece:inI64 m.piece
 ids:∀ n ∈ m.ids,inI64 n
 members:∀ x ∈ m.members,x.ok
theorem MsgR.of_new {w w':World} {m:MsgL} {s:MsgS} (h:MsgR w m s) (hg:Below w.heap.size w w'):MsgR w' m s:=⟨h.hash,h.ids.of_new hg,h.bytes.of_new hg,h.proof.of_new hg,h.members.of_new hg⟩
def MsgV (m:MsgL) (s:MsgS):Value:=.agg (msgCells m s).toArray
def MsgO (w:World) (g:Nat) (m:MsgL) (s:MsgS):Prop:=w.heap[g]? = some (.cells (msgCells m s).toArray 37 (0,0))∧m.hash.length = 32
theorem MsgO.lt {w:World} {g:Nat} {m:MsgL} {s:MsgS} (h:MsgO w g m s):g < w.heap.size:=(Array.getElem?_eq_some_iff.1 h.1).1
theorem MsgO.of_new {w w':World} {g:Nat} {m:MsgL} {s:MsgS} (h:MsgO w g m s) (hb:Below w.heap.size w w'):MsgO w' g m s:=⟨(hb.block _ h.lt).trans h.1,h.2⟩
theorem MsgO.of_block {w w':World} {g:Nat} {m:MsgL} {s:MsgS} (h:MsgO w g m s) (hb:w'.heap[g]? = w.heap[g]?):MsgO w' g m s:=⟨hb.trans h.1,h.2⟩
theorem msg_alloc (w:World) {m:MsgL} {s:MsgS} (h:m.hash.length = 32):MsgO (w.alloc (.cells (msgCells m s).toArray 37)) w.heap.size m s:=⟨heap_alloc_new w _,h⟩
theorem msgCells_len {m:MsgL} {s:MsgS} (h:m.hash.length = 32):(msgCells m s).length = 39:=by simp [msgCells,h]
theorem MsgO.at_ {w:World} {g:Nat} {m:MsgL} {s:MsgS} (h:MsgO w g m s) (j:Nat):w.cell? ⟨g,j,none⟩ = (msgCells m s)[j]?:=by
 simp only [World.cell?,h.1]
 simp
theorem MsgO.kind {w:World} {g:Nat} {m:MsgL} {s:MsgS} (h:MsgO w g m s):w.cell? ⟨g,0,none⟩ = some (.int .i64 m.kind):=by rw [h.at_];rfl
theorem msgCells_tail {m:MsgL} {s:MsgS} (h:m.hash.length = 32) (j:Nat):(msgCells m s)[33 + j]? = [.int .i64 m.piece,s.vi,s.vb,s.vp,s.vm,.bool m.seed][j]?:=by
 unfold msgCells
 rw [show 33 + j = (32 + j) + 1 by omega,List.getElem?_cons_succ,List.getElem?_append_right (by simp [h])]
 simp [h]
theorem MsgO.piece {w:World} {g:Nat} {m:MsgL} {s:MsgS} (h:MsgO w g m s):w.cell? ⟨g,33,none⟩ = some (.int .i64 m.piece):=by rw [h.at_];exact msgCells_tail h.2 0
theorem MsgO.ids {w:World} {g:Nat} {m:MsgL} {s:MsgS} (h:MsgO w g m s):w.cell? ⟨g,34,none⟩ = some s.vi:=by rw [h.at_];exact msgCells_tail h.2 1
theorem MsgO.bytes {w:World} {g:Nat} {m:MsgL} {s:MsgS} (h:MsgO w g m s):w.cell? ⟨g,35,none⟩ = some s.vb:=by rw [h.at_];exact msgCells_tail h.2 2
theorem MsgO.proof {w:World} {g:Nat} {m:MsgL} {s:MsgS} (h:MsgO w g m s):w.cell? ⟨g,36,none⟩ = some s.vp:=by rw [h.at_];exact msgCells_tail h.2 3
theorem MsgO.members {w:World} {g:Nat} {m:MsgL} {s:MsgS} (h:MsgO w g m s):w.cell? ⟨g,37,none⟩ = some s.vm:=by rw [h.at_];exact msgCells_tail h.2 4
theorem MsgO.seed {w:World} {g:Nat} {m:MsgL} {s:MsgS} (h:MsgO w g m s):w.cell? ⟨g,38,none⟩ = some (.bool m.seed):=by rw [h.at_];exact msgCells_tail h.2 5
theorem MsgO.hash {w:World} {g:Nat} {m:MsgL} {s:MsgS} (h:MsgO w g m s):DigAt w g 1 m.hash:=⟨h.2,fun j hj=>by
 rw [h.at_]
 unfold msgCells
 rw [show 1 + j = j + 1 by omega,List.getElem?_cons_succ,List.getElem?_append_left (by simp [h.2,hj])]⟩
theorem size_msg:(Tryz.prog.info? 37).map (·.size) = some 39:=by kernel_rfl
theorem run_load_msg {w:World} {g:Nat} {m:MsgL} {s:MsgS} (h:MsgO w g m s):(loadVar 37 ⟨g,0,none⟩).run Tryz.prog w = .ok (MsgV m s) w:=
 run_loadVar_row (P:=Tryz.prog) w g 37 37 (msgCells m s).toArray (0,0) _ h.1 Tryz.underlying37 rfl (by rw [size_msg];simp [msgCells_len h.2])
theorem wp_load_msg {w:World} {o:Oper} {a:Act} {K:Act→World→Prop} {Q:Exit→Act→World→Prop} {p:Operand} {g:Nat} {m:MsgL} {s:MsgS} (ho:o.op = .load 37 p) (hp:a.eval p = .pointer (some ⟨g,0,none⟩)) (h:MsgO w g m s)
  (hK:K (a.put o.dst (MsgV m s)) w):o.wp Tryz.prog a w K Q:=by
 refine wp_val (v:=MsgV m s) ?_ hK
 have:=run_load_msg h
 unfold execOp
 simp only [ho,hp,Instr.loadAt,Instr.sureAddr,Sem.run_bind,Sem.run_pure,Result.andThen_ok,this]
def Off (w:World) (g:Nat) (v:Value):Prop:=∀ k,v.ownBlock = some k→k ≠ g∧k < w.heap.size
theorem Off.mono {w w':World} {g:Nat} {v:Value} (h:Off w g v) (hs:w.heap.size ≤ w'.heap.size):Off w' g v:=fun k hk=>⟨(h k hk).1,Nat.lt_of_lt_of_le (h k hk).2 hs⟩
theorem Off.nil (w:World) (g:Nat):Off w g (.slice none 0 0):=fun k h=>nomatch h
structure MsgF (w:World) (g:Nat) (m:MsgL) (s:MsgS):Prop where
 o:MsgO w g m s
 r:MsgR w m s
 vi:Off w g s.vi
 vb:Off w g s.vb
 vp:Off w g s.vp
 vm:Off w g s.vm
theorem MsgF.free {w:World} {g:Nat} {m:MsgL} {s:MsgS} (h:MsgF w g m s) (j:Nat):w.frozen? ⟨g,j,none⟩ = false:=by
 simp [World.frozen?,h.o.1]
theorem MsgF.of_new {w w':World} {g:Nat} {m:MsgL} {s:MsgS} (h:MsgF w g m s) (hb:Below w.heap.size w w'):MsgF w' g m s:=⟨h.o.of_new hb,h.r.of_new hb,h.vi.mono hb.size,h.vb.mono hb.size,h.vp.mono hb.size,h.vm.mono hb.size⟩
theorem MsgF.rows {w w':World} {g:Nat} {m:MsgL} {s:MsgS} (h:MsgF w g m s) (hg:w.grownBy w' (some g)):MsgR w' m s:=
 ⟨h.r.hash,Row.of_kept h.r.ids hg (fun k hk e=>(h.vi k hk).1 (by cases e;rfl)),Row.of_kept h.r.bytes hg (fun k hk e=>(h.vb k hk).1 (by cases e;rfl)),
  ⟨h.r.proof.1,Row.of_kept h.r.proof.2 hg (fun k hk e=>(h.vp k hk).1 (by cases e;rfl))⟩,Row.of_kept h.r.members hg (fun k hk e=>(h.vm k hk).1 (by cases e;rfl))⟩
end Go.Proofs.YtnohglkilpnjhaaGreatDoor
namespace Go.Proofs.YtnohglkilpnjhaaGreatDoor
def msgZ:MsgL:=⟨0,zero32,0,[],[],[],[],false⟩
end Go.Proofs.YtnohglkilpnjhaaGreatDoor
namespace Go.Proofs.YtnohglkilpnjhaaGreatDoor
open Go.RowKit
set_option maxRecDepth 100000
theorem MsgR.one {w:World} {m:MsgL} {s:MsgS} (h:MsgR w m s):(msgCells m s).toArray.all (·.oneCell') = true:=
 Array.all_eq_true_iff_forall_mem.2 (fun v hv=>by
  obtain ⟨ia,ic,hi⟩:=h.ids.len
  obtain ⟨ba,bc,hb⟩:=h.bytes.len
  obtain ⟨pa,pc,hp⟩:=h.proof.len
  obtain ⟨ma,mc,hm⟩:=h.members.len
  have hv':v ∈ msgCells m s:=by simpa using hv
  simp only [msgCells,hi,hb,hp,hm,List.mem_append,List.mem_cons,List.mem_map,List.not_mem_nil,or_false] at hv'
  rcases hv' with rfl | ⟨b,_,rfl⟩ | rfl | rfl | rfl | rfl | rfl | rfl <;> rfl)
theorem wp_store_msg {w:World} {op:Oper} {a:Act} {K:Act→World→Prop} {Q:Exit→Act→World→Prop} (p q:Operand) (g:Nat) (m m0:MsgL) (s s0:MsgS) (ho:op.op = .store 37 p q)
  (hp:a.eval p = .pointer (some ⟨g,0,none⟩)) (hq:a.eval q = MsgV m s) (hx:MsgR w m s) (hg:MsgO w g m0 s0)
  (h:∀ w',MsgO w' g m s→w.grownBy w' (some g)→w'.heap.size = w.heap.size→K (a.put op.dst undef) w'):op.wp Tryz.prog a w K Q:=by
 have hrun:=run_storeVar_row (P:=Tryz.prog) w g 37 37 _ (msgCells m s).toArray hg.1 (by rw [size_msg];simp [msgCells_len hx.hash]) (by simp [msgCells_len hx.hash,msgCells_len hg.2]) hx.one
 unfold MsgV at hq
 unfold Oper.wp execOp
 simp only [ho,hp,hq,Instr.storeAt,Instr.sureAddr,Sem.run_bind,Sem.run_pure,Result.andThen_ok,hrun]
 exact h _ ⟨setRow_heap _ _ _ _ _ _ hg.1,hx.hash⟩ ⟨rfl,rfl,rfl,by simp [World.setRow],fun k hk hne=>Go.setRow_other w g k _ (fun e=>hne (by rw [e]))⟩ (by simp [World.setRow])
theorem results_msg {fn:Func} {p q:Tmp} (h:fn.results = #[.cell p 37,.tmp q]) (tmps:Array Value) {w:World} {b:Nat} {m:MsgL} {s:MsgS} {u:Value} (hp:tmps.getD p undef = .pointer (some ⟨b,0,none⟩)) (hq:tmps.getD q undef = u)
  (hx:MsgO w b m s):(results fn tmps).run Tryz.prog w = .ok (.tuple #[MsgV m s,u]) w:=by
 have hp':tmps[p]?.getD undef = .pointer (some ⟨b,0,none⟩):=by simpa using hp
 have hq':tmps[q]?.getD undef = u:=by simpa using hq
 simp [results,h,hp',hq',asAddr,run_load_msg hx]
def sN:MsgS:=⟨.slice none 0 0,.slice none 0 0,.slice none 0 0,.slice none 0 0⟩
theorem msgR_zero (w:World):MsgR w msgZ sN:=⟨rfl,Row.of_nil 1,Row.of_nil 1,⟨(fun d hd=>by cases hd),Row.of_nil 32⟩,Row.of_nil 4⟩
theorem zero_msg (w:World):(zeroValue 37).run Tryz.prog w = .ok (.agg (msgCells msgZ sN).toArray) w:=by kernel_rfl
theorem build_msg (w:World):(Instr.build 37 #[]).run Tryz.prog w = .ok (MsgV msgZ sN) w:=by kernel_rfl
theorem msgF_zero (w:World):MsgF (w.alloc (.cells (msgCells msgZ sN).toArray 37)) w.heap.size msgZ sN:=
 ⟨msg_alloc w rfl,msgR_zero _,Off.nil _ _,Off.nil _ _,Off.nil _ _,Off.nil _ _⟩
theorem wp_alloc_msg {w:World} {o:Oper} {a:Act} {K:Act→World→Prop} {Q:Exit→Act→World→Prop} (ho:o.op = .alloc 37)
  (h:∀ w',MsgF w' w.heap.size msgZ sN→Below w.heap.size w w'→w'.heap.size = w.heap.size + 1→K (a.put o.dst (.pointer (some ⟨w.heap.size,0,none⟩))) w'):o.wp Tryz.prog a w K Q:=by
 unfold Oper.wp execOp
 have:=h _ (msgF_zero w) ((Below.refl _ w).alloc (Nat.le_refl _) _) (by simp)
 have hz:=zero_msg w
 simp only [ho,Instr.alloc,Sem.run_bind,hz,Result.andThen_ok,Sem.run_pure,newVar,newRow]
 exact this
end Go.Proofs.YtnohglkilpnjhaaGreatDoor
namespace Go.Proofs.YtnohglkilpnjhaaGreatDoor
open Go.RowKit Go.Shelf
attribute [local go_sem] Oper.semAt_some
set_option maxRecDepth 100000
def Hi (L:Nat) (s:MsgS):Prop:=(∀ k,s.vi.ownBlock = some k→L ≤ k)∧(∀ k,s.vb.ownBlock = some k→L ≤ k)∧(∀ k,s.vp.ownBlock = some k→L ≤ k)∧∀ k,s.vm.ownBlock = some k→L ≤ k
end Go.Proofs.YtnohglkilpnjhaaGreatDoor
