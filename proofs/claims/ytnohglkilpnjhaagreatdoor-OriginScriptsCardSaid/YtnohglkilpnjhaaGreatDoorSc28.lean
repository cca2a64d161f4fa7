/- Lemmas that the statement of this claim leans on; their own comments are taken out, for the size of the claim. No condition beyond what each lemma states. -/
import Derived.Test.YtnohglkilpnjhaaGreatDoorSc27
set_option linter.unusedVariables false
set_option linter.unusedSimpArgs false
set_option linter.unusedSectionVars false
namespace Go.Proofs.YtnohglkilpnjhaaGreatDoor
open Go.RowKit
set_option maxRecDepth 100000
theorem layersOk_step {k:Int} {ls:List (List UInt8)} {i:Nat} (hi:i < ls.length):layersOk k (ls.take (i + 1)) = (layersOk k (ls.take i) && mrightB (ls.getD i []).length k):=by
 unfold layersOk
 rw [List.take_succ_eq_append_getElem hi,List.all_append]
 simp [List.getD_eq_getElem?_getD,List.getElem?_eq_getElem hi]
theorem layersOk_no {k:Int} {ls:List (List UInt8)} {i:Nat} (hi:i < ls.length) (h:mrightB (ls.getD i []).length k = false):layersOk k ls = false:=by
 unfold layersOk
 rw [List.all_eq_false]
 refine ⟨ls.getD i [],by rw [List.getD_eq_getElem?_getD,List.getElem?_eq_getElem hi];exact List.getElem_mem hi,by show ¬ mrightB _ k = true;rw [h];simp⟩
theorem blobsL_step {k:Int} {ls:List (List UInt8)} {i:Nat} (hi:i < ls.length):blobsL k (ls.take (i + 1)) = blobsL k (ls.take i) ++ [(blobE (ls.getD i []) k).1]:=by
 unfold blobsL
 rw [List.take_succ_eq_append_getElem hi,List.map_append]
 simp [List.getD_eq_getElem?_getD,List.getElem?_eq_getElem hi]
theorem contsL_step {k:Int} {ls:List (List UInt8)} {i:Nat} (hi:i < ls.length):contsL k (ls.take (i + 1)) = contsL k (ls.take i) ++ [((blobE (ls.getD i []) k).1,ls.getD i [])]:=by
 unfold contsL
 rw [List.take_succ_eq_append_getElem hi,List.map_append]
 simp [List.getD_eq_getElem?_getD,List.getElem?_eq_getElem hi]
theorem blobE_yes {b:List UInt8} {k:Int} (h:mrightB b.length k = true):blobE b k = ((blobE b k).1,0):=by unfold blobE;rw [if_pos h]
theorem blobE_no {b:List UInt8} {k:Int} (h:mrightB b.length k = false):blobE b k = (BlobL.zero,1):=by unfold blobE;rw [if_neg (by rw [h];simp)]
theorem blobE_leaves {b:List UInt8} {k:Int} (h:mrightB b.length k = true):leavesE b k = (leavesL b (blobE b k).1.piece.toNat,0):=by unfold leavesE blobE;rw [if_pos h,if_pos h]
theorem wp_build_cont {w:World} {o:Oper} {a:Act} {K:Act→World→Prop} {Q:Exit→Act→World→Prop} {p0 p1 p2:Operand} (x:BlobL) (v u:Value) (hx:x.ok) (hv:v.cells = #[v]) (hu:u.cells = #[u])
  (ho:o.op = .build 99 #[(0,p0),(1,p1),(2,p2)]) (h0:a.eval p0 = RBlob.V x) (h1:a.eval p1 = v) (h2:a.eval p2 = u) (hK:K (a.put o.dst (RCont.V ⟨x,v,u⟩)) w):o.wp Tryz.prog a w K Q:=by
 refine wp_val ?_ hK
 have:=run_build_cont x v u hx hv hu w
 replace h0:a.eval p0 = BlobV x:=h0
 unfold execOp
 simp only [ho,List.map_toArray,List.map_cons,List.map_nil,h0,h1,h2,Sem.run_bind,this,Result.andThen_ok,Sem.run_pure]
def PubI (W2:World) (g8:Nat) (k:Int) (ls:List (List UInt8)) (av iv:Value) (W:World):Prop:=
 ∃ (i:Nat) (cs:List CntR) (u cv:Value),i ≤ ls.length∧iv = .int .i64 i∧cv = av∧layersOk k (ls.take i) = true∧cs.map plC = contsL k (ls.take i)∧One W g8 u 52∧RBlob.Own W (g8 + 1) u (blobsL k (ls.take i)) ∧
  RCont.Own W (g8 + 1) cv (cs.map (·.1))∧(∀ x ∈ cs,ContP W (g8 + 1) x.1 x.2)∧Below W2.heap.size W2 W
theorem addCs_len:∀ (l cs:List (BlobL × List UInt8)),(l.foldl addC cs).length ≤ cs.length + l.length
 | [],cs=>by simp
 | p :: l,cs=>by
  have h1:=addCs_len l (addC cs p)
  have h2:=addC_len cs p
  rw [List.foldl_cons,List.length_cons];omega
theorem delL_none {κ:Type} [DecidableEq κ] {l:List (κ × Value)} {x:κ} (h:∀ p ∈ l,p.1 ≠ x):delL l x = l:=by
 unfold delL
 rw [List.filter_eq_self]
 intro p hp
 simp [h p hp]
theorem putM_snoc {κ:Type} [DecidableEq κ] {l:List (κ × Value)} {x:κ} {v:Value} (h:∀ p ∈ l,p.1 ≠ x):(putM l x v).Perm (l ++ [(x,v)]):=by
 unfold putM
 rw [delL_none h]
 exact (List.perm_append_singleton _ _).symm
theorem OrgQ.kept2 {w w':World} {o t mb im bm:Nat} {most each life:Int} {E:EntL} {I:List ImgR} {C:List CntR} {U:Nat→Prop} (h:OrgQ w o t mb im bm most each life E I C) (hk:Kept U w w') (h1:∀ k,FootM mb im bm E k→U k)
  (h2:∀ k cur ty f,w.heap[k]? = some (.cells cur ty f)→progTy ty→ty ≠ 31→U k) (h3:∀ x ∈ C,∀ k,x.1.leaves.ownBlock = some k→U k):OrgQ w' o t mb im bm most each life E I C:=by
 have hb:∀ k,FootM mb im bm E k→w'.heap[k]? = w.heap[k]?:=fun k hf=>hk.block k (h.lt hf) (h1 k hf)
 have hc:∀ {k:Nat} {cur:Array Value} {ty:TypeId} {f:Nat × Nat},w.heap[k]? = some (.cells cur ty f)→progTy ty→ty ≠ 31→w'.heap[k]? = w.heap[k]?:=fun e ht hn=>hk.block _ (Array.getElem?_eq_some_iff.1 e).1 (h2 _ _ _ _ e ht hn)
 have hr:∀ {base:Nat} {e:TypeId} {size n:Nat} {v:Value} {xs:List Value},w.ownsRow base e size v n xs→progTy e→e ≠ 31→w'.ownsRow base e size v n xs:=fun hr ht hn=>ownsRow_same hr fun k hv=>by
  obtain ⟨cur,e⟩:=ownsRow_block hr hv
  exact hc e ht hn
 exact ⟨(hc h.org (.inl rfl) (by decide)).trans h.org,h.tab.kept hk (h2 t _ _ _ h.tab.tab (.inr (.inl rfl)) (by decide)) (fun k hf=>h1 k (.inr (.inr hf))),h.imgs.of_block (hb im (.inl rfl)),fun x hx=>⟨(h.irow x hx).1,hr (h.irow x hx).2 (.inr (.inr (.inl rfl))) (by decide)⟩,
  h.blbs.of_block (hb bm (.inr (.inl rfl))),fun x hx=>⟨(h.crow x hx).ok,hr (h.crow x hx).bytes (.inr (.inr (.inr (.inl rfl)))) (by decide),(h.crow x hx).leaves.1,ownsRow_same (h.crow x hx).leaves.2 fun k hv=>hk.block k (World.ownsRow.lt (h.crow x hx).leaves.2 k hv).2 (h3 x hx k hv)⟩,h.apart⟩
def PubJ (Wst:World) (o t mb im bm:Nat) (most each life:Int) (E:EntL) (I:List ImgR) (C0:List CntR) (cs:List CntR) (iv:Value) (W:World):Prop:=
 ∃ (j:Nat) (Cj:List CntR),j ≤ cs.length∧iv = .int .i64 j∧OrgQ W o t mb im bm most each life E I Cj∧Cj.map plC = ((cs.take j).map plC).foldl addC (C0.map plC)∧(∀ x ∈ Cj,x ∈ C0∨x ∈ cs)∧Kept (fun q=>q ≠ bm) Wst W
def PubPost (w:World) (o:Nat) (most each life:Int) (F:Nat→Prop) (r:OrgL × List UInt8 × Int) (e:Ending) (w':World):Prop:=
 ∃ F',e = .returned (.tuple #[.agg (r.2.1.map B8).toArray,.int .i64 r.2.2])∧OrgP w' o most each life r.1 F'∧OStep F F' w w'
def OrgX (w:World) (o:Nat) (most each life:Int) (S:OrgL) (F X:Nat→Prop):Prop:=
 ∃ t mb im bm E I C,OrgQ w o t mb im bm most each life E I C∧S = ⟨I.map plI,C.map plC,tabOf E⟩∧F = FootM mb im bm E∧∀ x ∈ C,∀ k,x.1.leaves.ownBlock = some k→¬ X k
section
variable {w w':World} {o:Nat} {most each life:Int} {S:OrgL} {F X:Nat→Prop}
theorem OrgX.of_new (h:OrgX w o most each life S F X) (hb:Below w.heap.size w w'):OrgX w' o most each life S F X:=by
 obtain ⟨t,mb,im,bm,E,I,C,hq,e,e2,hx⟩:=h
 exact ⟨t,mb,im,bm,E,I,C,hq.of_new hb,e,e2,hx⟩
theorem OrgX.org (h:OrgX w o most each life S F X):OrgP w o most each life S F:=by
 obtain ⟨t,mb,im,bm,E,I,C,hq,e,e2,_⟩:=h
 exact ⟨t,mb,im,bm,E,I,C,hq,e,e2⟩
theorem OrgP.orgX (h:OrgP w o most each life S F) (hX:∀ k,k < w.heap.size→¬ X k):OrgX w o most each life S F X:=by
 obtain ⟨t,mb,im,bm,E,I,C,hq,e,e2⟩:=h
 exact ⟨t,mb,im,bm,E,I,C,hq,e,e2,fun x hx k hk=>hX k (World.ownsRow.lt (hq.crow x hx).leaves.2 k hk).2⟩
theorem OrgX.row {v v':Value} {l:List (List UInt8)} {base:Nat} (h:OrgX w o most each life S F (fun k=>v.ownBlock = some k)) (hv:OwnD w base v l) (hg:w.grownBy w' v.ownBlock) (hn:∀ k,v'.ownBlock = some k→v.ownBlock = some k∨w.heap.size ≤ k):OrgX w' o most each life S F (fun k=>v'.ownBlock = some k):=by
 obtain ⟨t,mb,im,bm,E,I,C,hq,e,e2,hx⟩:=h
 refine ⟨t,mb,im,bm,E,I,C,hq.kept2 (U:=fun k=>v.ownBlock ≠ some k) ((Kept.refl _ w).grown hg fun r e h=>h e) (fun k hk e=>?_) (fun k cur ty f he ht hne e=>?_) (fun x hx' k hk=>hx x hx' k hk),e,e2,fun x hx' k hk e=>?_⟩
 ·obtain ⟨cur,hc⟩:=ownsRow_block hv.2 e
  exact hq.cells_ne hk hc
 ·obtain ⟨cur2,hc⟩:=ownsRow_block hv.2 e
  rw [hc] at he
  cases he
  exact hne rfl
 ·rcases hn k e with h1 | h1
  ·exact hx x hx' k hk h1
  ·have:=(World.ownsRow.lt (hq.crow x hx').leaves.2 k hk).2
   omega
theorem OrgX.mono {Y:Nat→Prop} (h:OrgX w o most each life S F X) (hY:∀ k,Y k→X k):OrgX w o most each life S F Y:=by
 obtain ⟨t,mb,im,bm,E,I,C,hq,e,e2,hx⟩:=h
 exact ⟨t,mb,im,bm,E,I,C,hq,e,e2,fun x hx' k hk hy=>hx x hx' k hk (hY k hy)⟩
theorem OrgX.more {Y:Nat→Prop} (h:OrgX w o most each life S F X) (hY:∀ k,Y k→X k∨w.heap.size ≤ k):OrgX w o most each life S F Y:=by
 obtain ⟨t,mb,im,bm,E,I,C,hq,e,e2,hx⟩:=h
 refine ⟨t,mb,im,bm,E,I,C,hq,e,e2,fun x hx' k hk hy=>?_⟩
 rcases hY k hy with h1 | h1
 ·exact hx x hx' k hk h1
 ·have:=(World.ownsRow.lt (hq.crow x hx').leaves.2 k hk).2
  omega
theorem OrgX.put {g:Nat} {d:List UInt8} (h:OrgX w o most each life S F X) (hg:w.grownBy w' (some g)) (hX:X g) (hd:DigO w g d):OrgX w' o most each life S F X:=by
 obtain ⟨t,mb,im,bm,E,I,C,hq,e,e2,hx⟩:=h
 refine ⟨t,mb,im,bm,E,I,C,hq.kept2 (U:=fun k=>k ≠ g) ((Kept.refl _ w).grown hg fun r e=>by cases e;exact fun h=>h rfl) (fun k hk e=>?_) (fun k cur ty f he ht hne e=>?_) (fun x hx' k hk e=>hx x hx' k hk (e ▸ hX)),e,e2,hx⟩
 ·subst e
  exact hq.cells_ne hk hd.1
 ·subst e
  rw [hd.1] at he
  cases he
  exact hne rfl
end
def PubPostX (w:World) (o:Nat) (most each life:Int) (F X:Nat→Prop) (r:OrgL × List UInt8 × Int) (e:Ending) (w':World):Prop:=
 ∃ F',e = .returned (.tuple #[.agg (r.2.1.map B8).toArray,.int .i64 r.2.2])∧OrgX w' o most each life r.1 F' X∧OStep F F' w w'
set_option maxHeartbeats 6400000 in
theorem OPublish_X (o:Nat) (most each life:Int) (S:OrgL) (F X:Nat→Prop) (v:Value) (ls:List (List UInt8)) (k:Int) (w:World) (hO:OrgX w o most each life S F X) (hX:∀ k,X k→k < w.heap.size) (hk:OrgOk most each S) (hp:PartsV w v ls) (hl:ls.length ≤ 1000) (hKc:Consts w) :
  Calls Tryz.prog 12 #[.pointer (some ⟨o,0,none⟩),v,.int .i64 k] w (PubPostX w o most each life F X (pubL S ls k)):=by
 have HXB:=Lib.hid hX
 clear hX
 obtain ⟨va,vc,hv⟩:=hp.len
 subst hv
 have HP:=Lib.hid hp
 have HO:=Lib.hid hO
 have HK:=Lib.hid hk
 have HKC:=Lib.hid hKc
 obtain ⟨n,hn⟩:∃ n,ls.length = n:=⟨_,rfl⟩
 rw [hn] at hl HP ⊢
 have HN:=Lib.hid hn
 clear hp hO hk hKc hn
 go_enter Tryz.func12,Tryz.ntmps12
 go_upto_region 1 with ((with_reducible refine wpList_plain (o:=⟨some 6,Op.alloc _,_,_,_,_⟩) rfl fun K hK=>?_);(refine wp_alloc_dig rfl fun w1 ho1 hb1 hs1=>hK _ _ ?_);have HO1:=Lib.hid ho1;have HB1:=Lib.hid hb1;clear ho1 hb1 hs1)
 obtain ⟨g6,hg6⟩:∃ g,w.heap.size = g:=⟨_,rfl⟩
 have HG6:=Lib.hid hg6
 rw [hg6] at HO1 ⊢
 obtain ⟨g8,hg8⟩:∃ g,w1.heap.size = g:=⟨_,rfl⟩
 have HG8:=Lib.hid hg8
 have hlt68:g6 < g8:=by rw [← hg8];exact HO1.out.lt
 have HLT68:=Lib.hid hlt68
 clear hg6 hg8 hlt68
 go_upto_region 3 with ((with_reducible refine wpList_plain (o:=⟨some 8,Op.alloc _,_,_,_,_⟩) rfl fun K hK=>?_);(refine RImg.wp_alloc rfl fun w3 ho3 hb3 hs3=>hK _ _ ?_);rw [HG8.out] at ho3 hs3 ⊢;have HO3:=Lib.hid ho3;have HB3:=Lib.hid hb3;clear ho3 hb3 hs3)
 go_wp2
 go_loopw [9,11,12,13,14,15,26] (fun av _ _ _ _ _ iv W'=>PubI w1 g8 k ls av iv W') (fun _ _ _ _ _ _ iv _=>n - (intOf iv).toNat)
 case atStart=>exact ⟨0,[],_,_,Nat.zero_le _,rfl,rfl,rfl,rfl,RImg_one HO3.out,RecT.Own.nil _ _,RecT.Own.nil _ _,(fun x hx=>by cases hx),HB3.out⟩
 case round=>
  obtain ⟨i,cs,u,av,hi,rfl,rfl,hok,hcs,hone,hown,hall,hcp,hbr⟩:=hrel
  rw [HN.out] at hi
  by_cases hlt:i < n
  ·have hii:(i:Int) < (n:Int):=by omega
   obtain ⟨pb,poff,pc,hpv,hpb,hat⟩:=HP.out.at_ (by rw [HN.out];omega)
   rw [HN.out] at hpv hat
   obtain ⟨rfl,rfl⟩:va = some ⟨pb,poff,none⟩∧vc = pc:=by cases hpv;exact ⟨rfl,rfl⟩
   obtain ⟨ua,uc,hcell0,hub0⟩:=hat i hlt
   have hB1r:Below w.heap.size w wr:=below_next HB1.out hbr
   have hcell:=(hB1r.cell (p:=⟨pb,poff + i,none⟩) hpb).trans hcell0
   have hub:=hub0.of_new hB1r
   have hst1:=layersOk_step (k:=k) (ls:=ls) (i:=i) (by rw [HN.out];exact hlt)
   have hst2:=blobsL_step (k:=k) (ls:=ls) (i:=i) (by rw [HN.out];exact hlt)
   have hst3:=contsL_step (k:=k) (ls:=ls) (i:=i) (by rw [HN.out];exact hlt)
   have hno:=layersOk_no (k:=k) (ls:=ls) (i:=i) (by rw [HN.out];exact hlt)
   obtain ⟨b,hbb⟩:∃ b,ls.getD i [] = b:=⟨_,rfl⟩
   rw [hbb] at hcell hub hub0 hst1 hst2 hst3 hno
   have hYO:=blobE_ok b k
   have hBl:=fun W h hk=>Blob_any (.slice ua b.length uc) b k W h hk
   have HHY:=Lib.hid hYO
   have HBl:=Lib.hid hBl
   have HUB:=Lib.hid hub
   have HUB0:=Lib.hid hub0
   have HST1:=Lib.hid hst1
   have HST2:=Lib.hid hst2
   have HST3:=Lib.hid hst3
   have HNO:=Lib.hid hno
   have HOK:=Lib.hid hok
   have HCS:=Lib.hid hcs
   have HONE:=Lib.hid hone
   have HOWN:=Lib.hid hown
   have HALL:=Lib.hid hall
   have HCP:=Lib.hid hcp
   have HBR:=Lib.hid hbr
   have HB1R:=Lib.hid hB1r
   clear hpv hat hcell0 hub0 hbb hst1 hst2 hst3 hno hok hcs hone hown hall hcp hbr hub hB1r hYO hBl hpb
   rcases hrb:mrightB b.length k with _ | _
   ·have HE:=Lib.hid (blobE_no hrb)
    have HT:=Lib.hid (show pubL S ls k = (S,dig0,1) by unfold pubL;rw [HNO.out hrb];rfl)
    clear hrb
    rw [HE.out] at HBl HHY
    go_wp2_with (first
     | (go_at_call 34;refine (HBl.out _ HUB.out (HKC.out.of_new HB1R.out)).mono ?_;unfold BlobPost;rintro e w4 ⟨rfl,hb4⟩;have HB4:=Lib.hid (below_next HB1R.out hb4);have HO14:=Lib.hid (HO1.out.of_new (below_next HBR.out hb4));clear hb4)
     | ((with_reducible refine wpList_plain (o:=⟨some 12,Op.alloc _,_,_,_,_⟩) rfl fun K hK=>?_);(refine RBlob.wp_alloc rfl fun w5 ho5 hb5 hs5=>hK _ _ ?_);have HO5:=Lib.hid ho5;have HB5:=Lib.hid hb5;clear ho5 hb5 hs5)
     | ((with_reducible refine wpList_plain (o:=⟨none,Op.store _ (.tmp 12) (.tmp 34),_,_,_,_⟩) rfl fun K hK=>?_);(refine HO5.out.store (.tmp 12) (.tmp 34) rfl rfl rfl HHY.out fun w6 ho6 hg6 hs6=>hK _ _ ?_);have hb6:=HB5.out.grown hg6 (by have:=HB5.out.size;omega) (fun k e=>by cases e;exact Nat.le_refl _);have HB6:=Lib.hid (below_next HB4.out hb6);have HO16:=Lib.hid (HO14.out.of_new hb6);clear ho6 hg6 hs6 hb6)
     | ((with_reducible refine wpList_plain (o:=⟨none,Op.store _ (.tmp 6) (.tmp 38),_,_,_,_⟩) rfl fun K hK=>?_);(refine wp_store_digO (.tmp 6) (.tmp 38) g6 dig0 dig0 rfl rfl rfl rfl HO16.out fun w7 ho7 hg7 hs7=>hK _ _ ?_);have HO7:=Lib.hid ho7;have HG7:=Lib.hid hg7;clear ho7 hg7 hs7))
    refine bodyPost_ret (results_dig_tmp rfl _ rfl rfl HO7.out) rfl ?_
    rw [HT.out]
    have hbl:Below w.heap.size w w7:=HB6.out.grown HG7.out (by have:=HB6.out.size;omega) (fun k e=>by cases e;have:=HG6.out;omega)
    exact ⟨F,rfl,HO.out.of_new hbl,OStep.of_below hbl⟩
   ·have HE:=Lib.hid (blobE_yes hrb)
    have HLE:=Lib.hid (blobE_leaves hrb)
    have HST1':=Lib.hid (show layersOk k (ls.take (i + 1)) = true by rw [HST1.out,HOK.out,hrb];rfl)
    have HBLN:=Lib.hid (Int.ofNat_le.1 (right_parts hrb).2.1)
    clear hrb
    obtain ⟨y,hy⟩:∃ y,(blobE b k).1 = y:=⟨_,rfl⟩
    rw [hy] at HHY HE HLE HST2 HST3
    rw [HE.out] at HBl
    clear hy
    have hls:ls.length = n:=HN.out
    have hcl:cs.length = i:=by
     have:=congrArg List.length HCS.out
     simpa [contsL,hls,Nat.le_of_lt hlt] using this
    have hbl0:(blobsL k (ls.take i)).length = i:=by simp [blobsL,hls,Nat.le_of_lt hlt]
    have HCL:=Lib.hid hcl
    have HBL0:=Lib.hid hbl0
    clear hcl hbl0 hls
    go_upto_region 10 with (first
     | (go_at_call 34;refine (HBl.out _ HUB.out (HKC.out.of_new HB1R.out)).mono ?_;unfold BlobPost;rintro e w4 ⟨rfl,hb4⟩;have HB4:=Lib.hid (below_next HB1R.out hb4);have HR4:=Lib.hid hb4;clear hb4)
     | ((with_reducible refine wpList_plain (o:=⟨some 12,Op.alloc _,_,_,_,_⟩) rfl fun K hK=>?_);(refine RBlob.wp_alloc rfl fun w5 ho5 hb5 hs5=>hK _ _ ?_);have HO5:=Lib.hid ho5;have HB5:=Lib.hid hb5;clear ho5 hb5 hs5)
     | ((with_reducible refine wpList_plain (o:=⟨none,Op.store _ (.tmp 12) (.tmp 34),_,_,_,_⟩) rfl fun K hK=>?_);(refine HO5.out.store (.tmp 12) (.tmp 34) rfl rfl rfl HHY.out fun w6 ho6 hg6 hs6=>hK _ _ ?_);have hb6:=HB5.out.grown hg6 (by have:=HB5.out.size;omega) (fun k e=>by cases e;exact Nat.le_refl _);have HO12:=Lib.hid ho6;have HR6:=Lib.hid (below_next HR4.out hb6);have HB6:=Lib.hid (below_next HB4.out hb6);clear ho6 hg6 hs6 hb6)
     | (go_at_call 35;refine (Leaves_any (.slice ua b.length uc) b k _ (HUB.out.of_new HR6.out) (HKC.out.of_new HB6.out)).mono ?_;rw [HLE.out];rintro e w7 ⟨v7,rfl,ho7,hb7⟩;obtain ⟨la,lc,hlv⟩:=ho7.digs.len;subst hlv;have HLV:=Lib.hid ho7;have HS67:=Lib.hid HR6.out.size;have HR7:=Lib.hid (below_next HR6.out hb7);have HB7:=Lib.hid (below_next HB6.out hb7);have HO127:=Lib.hid (HO12.out.of_new hb7);clear ho7 hb7))
    obtain ⟨g12,hg12⟩:∃ g,w4.heap.size = g:=⟨_,rfl⟩
    rw [hg12] at HO127 ⊢
    have HG12:=Lib.hid hg12
    have hone7:=HONE.out.of_new HR7.out
    have hcg:=hone7.cell
    have HONE7:=Lib.hid hone7
    have HOWN7:=Lib.hid (HOWN.out.of_new HR7.out)
    have HALL7:=Lib.hid (HALL.out.of_new HR7.out)
    have HCP7:=Lib.hid (fun x hx=>(HCP.out x hx).of_new HR7.out)
    have HUB7:=Lib.hid (HUB.out.of_new HR7.out)
    clear hone7 hg12
    go_upto_region 11 with (first
     | ((with_reducible refine wpList_plain (o:=⟨some 48,Op.load _ _,_,_,_,_⟩) rfl fun K hK=>?_);(refine HO127.out.at_.wp rfl rfl (hK _ _ ?_)))
     | ((with_reducible refine wpList_plain (o:=⟨some 49,Op.buildSlice _ _ _,_,_,_,_⟩) rfl fun K hK=>?_);(refine RBlob.wp_build1 (x:=y) Tryz.underlying50 (.tmp 48) HHY.out rfl rfl fun w8 ho8 hb8 hs8=>hK _ _ ?_);have HO8:=Lib.hid ho8;have HR8:=Lib.hid hb8;have HONE8:=Lib.hid (HONE7.out.of_new hb8);have HWN8:=Lib.hid (HOWN7.out.of_new hb8);clear ho8 hb8 hs8)
     | ((with_reducible refine wpList_plain (o:=⟨some 50,_,_,_,_,_⟩) rfl fun K hK=>?_);(refine HWN8.out.app Tryz.underlying50 (.tmp 47) (.tmp 49) rfl rfl rfl HO8.out.row (by have:=HBL0.out;simp;omega) (by have:=HONE8.out.lt;omega) fun v' w9 hoA hgA hkA=>hK _ _ ?_);obtain ⟨a9,c9,hv9⟩:=hoA.row.len;subst hv9;have hone9:=HONE8.out.grown hgA (fun e=>by have:=(HWN8.out.lt g8 e.symm).1;omega);have hcg9:=hone9.cell;have hfg9:=hone9.free;have HONE9:=Lib.hid hone9;have HOA:=Lib.hid hoA;have HGA:=Lib.hid hgA;clear hoA hgA hkA hone9))
    generalize hW10:w9.setCell _ _ = w10
    obtain ⟨xs,hxs⟩:∃ xs,blobsL k (ls.take i) = xs:=⟨_,rfl⟩
    rw [hxs] at HOA HST2 HBL0 HWN8 hW10
    clear hxs
    have hk10:Kept (fun q=>q ≠ g8∧u.ownBlock ≠ some q) w8 w10:=by
     subst hW10
     exact ((Kept.refl _ w8).grown HGA.out (fun r e h=>h.2 e)).setCell (fun h=>h.1 rfl) _
    have hlt8:=HONE8.out.lt
    have keep:∀ {base:Nat} {e:TypeId} {size n:Nat} {v:Value} {ws:List Value},w8.ownsRow base e size v n ws→g8 < base→e ≠ 81→w10.ownsRow base e size v n ws:=fun hr hb he=>ownsRow_same hr fun q hq=>by
     refine hk10.block q (World.ownsRow.lt hr q hq).2 ⟨fun e2=>?_,fun e2=>?_⟩
     ·have:=(World.ownsRow.lt hr q hq).1
      omega
     ·obtain ⟨cur,h1⟩:=ownsRow_block hr hq
      obtain ⟨cur2,h2⟩:=ownsRow_block HWN8.out.2 e2
      rw [h1] at h2
      exact he (by cases h2;rfl)
    have hone10:One w10 g8 (.slice a9 (xs ++ [y]).length c9) 52:=by
     subst hW10
     have h:=HONE9.out.set (.slice a9 (xs.length + 1) c9)
     rw [show (xs ++ [y]).length = xs.length + 1 by simp]
     simpa using h
    have hown10:RBlob.Own w10 (g8 + 1) (.slice a9 (xs ++ [y]).length c9) (xs ++ [y]):=by
     subst hW10
     exact HOA.out.kept fun q hq=>Below.heap_setCell _ _ _ _ (by have:=(HOA.out.lt q hq).1;show q ≠ g8;omega)
    have hall10:RCont.Own w10 (g8 + 1) av (cs.map (·.1)):=⟨HALL7.out.1,keep (HALL7.out.of_new HR8.out).2 (by omega) (by decide)⟩
    have hcp10:∀ x ∈ cs,ContP w10 (g8 + 1) x.1 x.2:=fun x hx=>by
     have h:=(HCP7.out x hx).of_new HR8.out
     exact ⟨h.ok,keep h.bytes (by omega) (by decide),h.leaves.1,keep h.leaves.2 (by omega) (by decide)⟩
    have hz6:=HR6.out.size
    have hz67:=HS67.out
    have hzr:=HONE.out.lt
    have hlv10:OwnD w10 w6.heap.size (.slice la (leavesL b y.piece.toNat).length lc) (leavesL b y.piece.toNat):=⟨HLV.out.1,keep (HLV.out.of_new HR8.out).2 (by omega) (by decide)⟩
    have ho1210:RBlob.O w10 g12 y:=(HO127.out.of_new HR8.out).of_block (hk10.block g12 (HO127.out.of_new HR8.out).lt ⟨fun e=>by have:=HG12.out;have:=HR4.out.size;omega,fun e=>by have:=(HOWN.out.lt g12 e).2;have:=HG12.out;have:=HR4.out.size;omega⟩)
    have hb10:Below w1.heap.size w1 w10:=by
     have h8:Below w1.heap.size w1 w8:=below_next HBR.out (below_next HR7.out HR8.out)
     refine hk10.to_below h8 h8.size fun q hq=>⟨fun e=>by have:=HG8.out;omega,fun e=>by have:=(HWN8.out.lt q e).1;have:=HG8.out;omega⟩
    have hB10:=HB1.out.trans (hb10.mono HB1.out.size)
    have hbs:=HUB0.out.of_new hB10
    have HONE10:=Lib.hid hone10
    have HOWN10:=Lib.hid hown10
    have HALL10:=Lib.hid hall10
    have HCP10:=Lib.hid hcp10
    have HLV10:=Lib.hid hlv10
    have HO1210:=Lib.hid ho1210
    have HB10:=Lib.hid hb10
    have HBS:=Lib.hid hbs
    have HZ6:=Lib.hid (show g8 < w6.heap.size by omega)
    have HTYC:=Lib.hid (show RCont.ok ⟨y,.slice none 0 0,.slice none 0 0⟩ from ⟨HHY.out,rfl,rfl⟩)
    clear hW10 hcg hcg9 hfg9 hk10 keep hone10 hown10 hall10 hcp10 hz6 hz67 hzr hlv10 ho1210 hb10 hB10 hbs hlt8
    refine (wpIn_wide (n:=5)).1 ?_
    refine wpIn_region_mix (ro:=none) (C:=Grew w10) [0,1,2,4] [3,5,6] [7,8] (by kernel_rfl) (by kernel_rfl) (Grew.start _) (fun c a d v w h=>by cases d <;> exact h) ?_
    simp only [opsAt,List.flatMap_cons,List.flatMap_nil,List.getElem?_cons_zero,List.getElem?_cons_succ,Option.toList_some,List.cons_append,List.nil_append]
    go_simp
    repeat (first
     | (go_big_quiet_want;(refine RecT.At.quiet (R:=RBlob) (x:=y) (p:=.tmp 12) (fun w' hw'=>(HO1210.out.of_new hw').at_) rfl rfl ?_);go_simp;go_big_quiet_on)
     | (go_big_quiet_want;(with_reducible apply quiet_load_at (ty:=31) (x:=.tmp _));rfl;rfl;assumption;go_simp;go_big_quiet_on)
     | (go_big_quiet_want;apply quiet_val;(intro w' hw';go_simp;first | done | rfl);go_simp;go_big_quiet_on)
     | (go_big_quiet_skip))
    refine wpQuiet_nil ?_
    intro w11 hw11
    refine LateL.cons rfl (wp_enter (f:=36) (args:=#[.slice ua b.length uc]) (by go_simp <;> rfl) (Clone_any _ b w11 (HBS.out.of_new hw11) (by have:=HBLN.out;omega)) ?_)
    rintro e w12 ⟨v12,rfl,ho12,hb12⟩
    have hw12:Grew w10 w12:=below_next hw11 hb12
    refine ⟨_,rfl,hw12,?_⟩
    obtain ⟨ba,bc,hbv⟩:=ho12.bytes.len
    subst hbv
    refine LateL.cons rfl (wp_build_cont y (.slice ba b.length bc) (.slice la (leavesL b y.piece.toNat).length lc) HHY.out rfl rfl rfl rfl rfl rfl ?_)
    refine ⟨hw12,?_⟩
    refine LateL.cons rfl (RCont.wp_build1 (x:=⟨y,.slice ba b.length bc,.slice la (leavesL b y.piece.toNat).length lc⟩) Tryz.underlying92 (.tmp 57) ⟨HHY.out,rfl,rfl⟩ rfl rfl ?_)
    intro w13 ho13 hb13 hs13
    have hw13:Grew w10 w13:=below_next hw12 hb13
    refine ⟨hw13,?_⟩
    refine LateL.nil ?_
    rw [wF_none]
    have hall13:=HALL10.out.of_new hw13
    refine wpListIn_of_wp (ro:=none) rfl (fun c hc=>by cases hc) (hall13.app Tryz.underlying92 (.tmp 52) (.tmp 58) rfl rfl rfl ho13.row (by have:=HCL.out;simp;omega) (by have:=HONE10.out.lt;have:=hw13.size;omega) ?_)
    intro v14 w14 ho14 hg14 hu14
    have hrel14:PubI w1 g8 k ls v14 (.int .i64 ((i:Int) + 1)) w14:=by
     refine ⟨i + 1,cs ++ [(⟨y,.slice ba b.length bc,.slice la (leavesL b y.piece.toNat).length lc⟩,b)],.slice a9 (xs ++ [y]).length c9,v14,by rw [HN.out];omega,by go_num,rfl,HST1'.out,?_,(HONE10.out.of_new hw13).grown hg14 (fun e=>by have:=(hall13.lt g8 e.symm).1;omega),?_,by simpa using ho14,fun x hx=>?_,?_⟩
     ·rw [List.map_append,HCS.out,HST3.out];rfl
     ·rw [HST2.out]
      exact ⟨HOWN10.out.1,ownsRow_other (HOWN10.out.of_new hw13).2 hall13.2 (by decide) hg14⟩
     ·have hnew:ContP w13 (g8 + 1) ⟨y,.slice ba b.length bc,.slice la (leavesL b y.piece.toNat).length lc⟩ b:=by
       have h1:=hw11.size
       have h2:=HONE10.out.lt
       have h3:=HZ6.out
       refine ⟨HHY.out,ownsRow_mono (Own8.new ho12 hb13) (by omega),HLV10.out.1,ownsRow_mono (HLV10.out.of_new hw13).2 (by omega)⟩
      have hx13:ContP w13 (g8 + 1) x.1 x.2:=by
       rcases List.mem_append.1 hx with hx | hx
       ·exact (HCP10.out x hx).of_new hw13
       ·rw [List.mem_singleton.1 hx];exact hnew
      exact ⟨hx13.ok,ownsRow_other hx13.bytes hall13.2 (by decide) hg14,hx13.leaves.1,ownsRow_other hx13.leaves.2 hall13.2 (by decide) hg14⟩
     ·exact (below_next HB10.out hw13).grown hg14 (by have:=HB10.out.size;have:=hw13.size;omega) (fun q e=>by have:=(hall13.lt q e).1;have:=HG8.out;omega)
    have HREL:=Lib.hid hrel14
    clear hw11 ho12 hb12 hw12 ho13 hb13 hs13 hw13 hall13 ho14 hg14 hu14 hrel14
    simp only [Act.put]
    rw [wF_none]
    gi_wp2
    go_wp2
    go_roundw
    case rel=>exact HREL.out
    case measure=>simp [intOf];omega
  ·obtain rfl:i = n:=by omega
   have hii:¬ (i:Int) < (i:Int):=by omega
   rw [List.take_of_length_le (by rw [HN.out];exact Nat.le_refl _)] at hok hcs hown
   have hxl:(blobsL k ls).length ≤ 1000:=by unfold blobsL;rw [List.length_map,HN.out];exact hl
   have hcl:cs.length ≤ 1000:=by
    have:=congrArg List.length hcs
    unfold contsL at this
    rw [List.length_map,List.length_map,HN.out] at this
    omega
   obtain ⟨aa,ac,hav⟩:=hall.row.len
   rw [List.length_map] at hav
   subst hav
   obtain ⟨t,mb,im,bm,ET,I,C,hq,rfl,rfl,hxx⟩:=HO.out
   have HXX:=Lib.hid hxx
   clear hxx
   have hT:pubL ⟨I.map plI,C.map plC,tabOf ET⟩ ls k = if encGE (blobsL k ls) = 0 then (if (imgAt ⟨I.map plI,C.map plC,tabOf ET⟩ (nameL (blobsL k ls))).isSome then (⟨I.map plI,C.map plC,tabOf ET⟩,nameL (blobsL k ls),0) else if 64 ≤ I.length then (⟨I.map plI,C.map plC,tabOf ET⟩,dig0,3) else (⟨I.map plI ++ [(nameL (blobsL k ls),blobsL k ls)],(contsL k ls).foldl addC (C.map plC),tabOf ET⟩,nameL (blobsL k ls),0)) else (⟨I.map plI,C.map plC,tabOf ET⟩,dig0,encGE (blobsL k ls)):=by
    unfold pubL
    rw [if_pos hok]
    simp only [List.length_map]
   obtain ⟨xs,hxs⟩:∃ xs,blobsL k ls = xs:=⟨_,rfl⟩
   rw [hxs] at hT hown hxl
   obtain ⟨EC,hEC⟩:∃ e,encGE xs = e:=⟨_,rfl⟩
   obtain ⟨nm,hnm⟩:∃ m,nameL xs = m:=⟨_,rfl⟩
   have hn32:nm.length = 32:=by rw [← hnm];exact nameL_len _
   rw [hEC,hnm,← hcs] at hT
   have hNM:=fun W h hK=>Name_any u xs W h hK
   unfold NamePost at hNM
   rw [hEC,hnm] at hNM
   have hB1r:Below w.heap.size w wr:=below_next HB1.out hbr
   have hi8:RImg.O wr g8 u:=one_RImg hone (by obtain ⟨a,c,h⟩:=hown.row.len;rw [h];rfl)
   have HT:=Lib.hid hT
   have HNM:=Lib.hid hNM
   have HN32:=Lib.hid hn32
   have HQ0:=Lib.hid hq
   have HQR:=Lib.hid (hq.of_new hB1r)
   have HI8:=Lib.hid hi8
   have HOWN:=Lib.hid hown
   have HALL:=Lib.hid hall
   have HCP:=Lib.hid hcp
   have HBR:=Lib.hid hbr
   have HB1R:=Lib.hid hB1r
   have HXL:=Lib.hid hxl
   have HCL:=Lib.hid hcl
   have HO6:=Lib.hid (HO1.out.of_new hbr)
   have HKR:=Lib.hid (HKC.out.of_new hB1r)
   have HN0:=Lib.hid (show w.heap.size ≤ g6 by have:=HG6.out;omega)
   have HCF:=Lib.hid (show C.length ≤ 1024 by have h1:=HK.out.cfew;have h2:=HK.out.few;simp only [List.length_map] at h1 h2;omega)
   clear hok hcs hone hown hall hcp hbr hq hT hxs hEC hnm hn32 hNM hB1r hi8 hxl hcl
   go_upto_region 14 with (first
    | ((with_reducible refine wpList_plain (o:=⟨some 62,Op.load _ _,_,_,_,_⟩) rfl fun K hK=>?_);(refine HI8.out.at_.wp rfl rfl (hK _ _ ?_)))
    | (go_at_call 37;refine (HNM.out _ HOWN.out.row HKR.out).mono ?_;rintro e w4 ⟨rfl,hb4⟩;have HB4:=Lib.hid hb4;clear hb4)
    | ((with_reducible refine wpList_plain (o:=⟨some 16,Op.alloc _,_,_,_,_⟩) rfl fun K hK=>?_);(refine wp_alloc_dig rfl fun w5 ho5 hb5 hs5=>hK _ _ ?_);have HO5:=Lib.hid ho5;have HB5:=Lib.hid hb5;clear ho5 hb5 hs5)
    | ((with_reducible refine wpList_plain (o:=⟨none,Op.store _ (.tmp 16) (.tmp 64),_,_,_,_⟩) rfl fun K hK=>?_);(refine wp_store_digO (.tmp 16) (.tmp 64) w4.heap.size nm dig0 rfl rfl rfl HN32.out HO5.out fun w6 ho6 hg6 hs6=>hK _ _ ?_);have hb6:=HB5.out.grown hg6 (by have:=HB5.out.size;omega) (fun k e=>by cases e;exact Nat.le_refl _);have HO16:=Lib.hid ho6;have HB6:=Lib.hid (below_next HB4.out hb6);clear ho6 hg6 hs6 hb6))
   obtain ⟨g16,hg16⟩:∃ g,w4.heap.size = g:=⟨_,rfl⟩
   have HG16:=Lib.hid (show g6 < g16 by rw [← hg16];have:=HO6.out.lt;have:=HB4.out.size;omega)
   rw [hg16] at HO16 ⊢
   have HBW:=Lib.hid (below_next HB1R.out HB6.out)
   have HQ6:=Lib.hid (HQR.out.of_new HB6.out)
   have HI86:=Lib.hid (HI8.out.of_new HB6.out)
   have HOWN6:=Lib.hid (HOWN.out.of_new HB6.out)
   have HALL6:=Lib.hid (HALL.out.of_new HB6.out)
   have HCP6:=Lib.hid (fun x hx=>(HCP.out x hx).of_new HB6.out)
   have HO66:=Lib.hid (HO6.out.of_new HB6.out)
   clear hg16
   by_cases h0:EC = 0
   case neg=>
    have HT2:=Lib.hid (HT.out.trans (if_neg h0))
    have t1:(EC == 0) = false:=beq_eq_false_iff_ne.2 h0
    have t2:(EC != 0) = true:=bne_iff_ne.2 h0
    clear h0
    go_wp2_with ((with_reducible refine wpList_plain (o:=⟨none,Op.store _ (.tmp 6) (.tmp 68),_,_,_,_⟩) rfl fun K hK=>?_);(refine wp_store_digO (.tmp 6) (.tmp 68) g6 dig0 dig0 rfl rfl rfl rfl HO66.out fun w7 ho7 hg7 hs7=>hK _ _ ?_);have HO7:=Lib.hid ho7;have HG7:=Lib.hid hg7;clear ho7 hg7 hs7)
    refine bodyPost_ret (results_dig_tmp rfl _ rfl rfl HO7.out) rfl ?_
    rw [HT2.out]
    have hbl:Below w.heap.size w w7:=HBW.out.grown HG7.out (by have:=HBW.out.size;omega) (fun k e=>by cases e;exact HN0.out)
    exact ⟨_,rfl,HO.out.of_new hbl,OStep.of_below hbl⟩
   subst h0
   have HT2:=Lib.hid (HT.out.trans (if_pos rfl))
   clear HT
   obtain ⟨v5,xs5,is,hi5,hv5, -,hl5⟩:=HQ6.out.look_img HN32.out
   have hvok:RImg.ok v5:=by obtain ⟨a,c,h⟩:=hv5.row.len;rw [h];rfl
   have HV5:=Lib.hid hvok
   clear hv5 hvok
   have hc2:=fun w' (h:Grew w6 w')=>Grew.cell h HQ6.out.cell2
   have hdg:DigAt w6 g16 0 nm:=HO16.out.at_
   have HI5:=Lib.hid hi5
   clear hi5
   go_upto_region 16 with (fail)
   refine (wpIn_wide (n:=5)).1 ?_
   refine wpIn_region_mix2 (ro:=none) (C:=Grew w6) [0,1,2,3,4,5,6] [7,8] [9] [10,11] (by kernel_rfl) (by kernel_rfl) (Grew.start _) (fun c a d v w h=>by cases d <;> exact h) ?_
   simp only [opsAt,List.flatMap_cons,List.flatMap_nil,List.getElem?_cons_zero,List.getElem?_cons_succ,Option.toList_some,List.cons_append,List.nil_append]
   go_simp
   repeat (first
    | (go_big_quiet_want;(with_reducible apply quiet_load_at (ty:=31) (x:=.tmp _));rfl;rfl;assumption;go_simp;go_big_quiet_on)
    | (go_big_quiet_want;apply quiet_val;(intro w' hw';go_simp;first | done | rfl);go_simp;go_big_quiet_on)
    | (go_big_quiet_skip))
   refine wpQuiet_nil ?_
   repeat (first
    | (go_big_quiet_want;apply quiet_val;(intro w' hw';go_simp;first | done | rfl);go_simp;go_big_quiet_on)
    | (go_big_quiet_skip))
   refine wpQuiet_nil ?_
   intro w7 hw7
   refine LateL.cons rfl (RImg.wp_alloc rfl ?_)
   intro w8 ho8 hb8 hs8
   have hw8:Grew w6 w8:=below_next hw7 hb8
   refine ⟨hw8,?_⟩
   refine LateL.nil ?_
   rw [wF_none]
   refine wpListIn_of_wp (ro:=none) rfl (fun c hc=>by cases hc) (ho8.store (x:=v5) (.tmp 18) (.tmp 77) rfl rfl rfl HV5.out ?_)
   intro w9 ho9 hg9 hs9
   have hb9:Below w6.heap.size w6 w9:=hw8.grown hg9 (by have:=hw8.size;omega) (fun k e=>by cases e;exact hw7.size)
   have HBW9:=Lib.hid (below_next HBW.out hb9)
   have HQ9:=Lib.hid (HQ6.out.of_new hb9)
   have HI89:=Lib.hid (HI86.out.of_new hb9)
   have HOWN9:=Lib.hid (HOWN6.out.of_new hb9)
   have HALL9:=Lib.hid (HALL6.out.of_new hb9)
   have HCP9:=Lib.hid (fun x hx=>(HCP6.out x hx).of_new hb9)
   have HO69:=Lib.hid (HO66.out.of_new hb9)
   have HO169:=Lib.hid (HO16.out.of_new hb9)
   clear hl5 hc2 hdg hw7 ho8 hb8 hs8 hw8 ho9 hg9 hs9 hb9
   simp only [Act.put]
   rw [wF_none]
   gi_wp2
   cases is with
   | true=>
    have HT3:=Lib.hid (HT2.out.trans (if_pos (by rw [HI5.out];rfl)))
    have HDG9:=Lib.hid HO169.out.at_
    go_wp2_with (first
     | ((with_reducible refine wpList_plain (o:=⟨some 80,Op.load _ _,_,_,_,_⟩) rfl fun K hK=>?_);(refine wp_load_at (ty:=31) (x:=.tmp 16) rfl rfl HDG9.out (hK _ _ ?_)))
     | ((with_reducible refine wpList_plain (o:=⟨none,Op.store _ (.tmp 6) (.tmp 80),_,_,_,_⟩) rfl fun K hK=>?_);(refine wp_store_digO (.tmp 6) (.tmp 80) g6 nm dig0 rfl rfl rfl HN32.out HO69.out fun wA hoA hgA hsA=>hK _ _ ?_);have HOA:=Lib.hid hoA;have HGA:=Lib.hid hgA;clear hoA hgA hsA))
    refine bodyPost_ret (results_dig_tmp rfl _ rfl rfl HOA.out) rfl ?_
    rw [HT3.out]
    have hbl:Below w.heap.size w wA:=HBW9.out.grown HGA.out (by have:=HBW9.out.size;omega) (fun k e=>by cases e;exact HN0.out)
    exact ⟨_,rfl,HO.out.of_new hbl,OStep.of_below hbl⟩
   | false=>
    have HT3:=Lib.hid (HT2.out.trans (if_neg (by rw [HI5.out];simp)))
    have hc2:=HQ9.out.cell2
    have hlen:=fun ty=>HQ9.out.imgs.len (t:=88) Tryz.underlying88 ty
    simp only [List.length_map] at hlen
    by_cases h64:64 ≤ I.length
    ·have HT4:=Lib.hid (HT3.out.trans (if_pos h64))
     have h64i:(64:Int) ≤ (I.length:Int):=by omega
     clear h64
     go_wp2_with ((with_reducible refine wpList_plain (o:=⟨none,Op.store _ (.tmp 6) (.tmp 87),_,_,_,_⟩) rfl fun K hK=>?_);(refine wp_store_digO (.tmp 6) (.tmp 87) g6 dig0 dig0 rfl rfl rfl rfl HO69.out fun wA hoA hgA hsA=>hK _ _ ?_);have HOA:=Lib.hid hoA;have HGA:=Lib.hid hgA;clear hoA hgA hsA)
     refine bodyPost_ret (results_dig_tmp rfl _ rfl rfl HOA.out) rfl ?_
     rw [HT4.out]
     have hbl:Below w.heap.size w wA:=HBW9.out.grown HGA.out (by have:=HBW9.out.size;omega) (fun k e=>by cases e;exact HN0.out)
     exact ⟨_,rfl,HO.out.of_new hbl,OStep.of_below hbl⟩
    have HT4:=Lib.hid (HT3.out.trans (if_neg h64))
    have h64i:¬ (64:Int) ≤ (I.length:Int):=by omega
    have H64:=Lib.hid h64
    clear h64
    go_upto_region 21 with (fail)
    clear hc2 hlen
    have hc2:=fun w' (h:Grew w9 w')=>Grew.cell h HQ9.out.cell2
    have hdg:DigAt w9 g16 0 nm:=HO169.out.at_
    refine wp_region_grew_tail 6 (by kernel_rfl) (by kernel_rfl) ?_
    simp only [List.take_succ_cons,List.take_zero,List.drop_succ_cons,List.drop_zero]
    repeat (first
     | (go_big_quiet_want;(refine RecT.At.quiet (R:=RImg) (x:=u) (p:=.tmp 8) (fun w' hw'=>(HI89.out.of_new hw').at_) rfl rfl ?_);go_simp;go_big_quiet_on)
     | (go_big_quiet_want;(with_reducible apply quiet_load_at (ty:=31) (x:=.tmp _));rfl;rfl;assumption;go_simp;go_big_quiet_on)
     | (go_big_quiet_want;apply quiet_val;(intro w' hw';go_simp;first | done | rfl);go_simp;go_big_quiet_on)
     | (go_big_quiet_skip))
    refine wpQuiet_nil ?_
    intro wA hwA
    have hqA:=HQ9.out.of_new hwA
    have hnone:∀ p ∈ I.map outI,p.1 ≠ nm:=fun p hp=>by
     obtain ⟨x,hx,rfl⟩:=List.mem_map.1 hp
     exact imgAt_none.1 (by rw [HI5.out];rfl) _ (List.mem_map_of_mem hx)
    obtain ⟨wB,hput,hmB,hgB,hsB⟩:=hqA.imgs.put (t:=88) Tryz.underlying88 (KT:=KDig) (x:=nm) HN32.out (.agg #[u]) (by rw [List.length_map];have:=H64.out;omega)
    replace hput:(Instr.mapUpdate 88 (.map (some im)) (.agg (nm.map B8).toArray) (.agg #[u])).run Tryz.prog wA = .ok () wB:=hput
    have hput2:(Instr.mapUpdate 88 (.map (some im)) (.agg (nm.map B8).toArray) (RImg.V u)).run Tryz.prog wA = .ok () wB:=hput
    have hmB2:MapL KDig wB im ((I ++ [(nm,(u,xs))]).map outI):=by
     rw [List.map_append]
     exact hmB.perm (putM_snoc hnone)
    obtain ⟨hqB,hstB⟩:=hqA.set_imgs (I':=I ++ [(nm,(u,xs))]) hmB2 hgB (fun x hx=>by
     rcases List.mem_append.1 hx with hx | hx
     ·exact hqA.irow x hx
     ·rw [List.mem_singleton.1 hx]
      exact RecT.Own.mono (HOWN9.out.of_new hwA) (Nat.zero_le _))
    have hkB:Kept (fun q=>q ≠ im) wA wB:=(Kept.refl _ wA).grown hgB fun r e=>by cases e;exact fun h=>h rfl
    have hmm:∀ q,¬ (q ≠ im)→∀ cur ty f,wA.heap[q]? ≠ some (.cells cur ty f):=fun q hq cur ty f e=>by
     obtain rfl:q = im:=Classical.not_not.1 hq
     exact hqA.cells_ne (.inl rfl) e
    have hdk:∀ {g:Nat} {d:List UInt8},DigO wA g d→DigO wB g d:=fun {g d} h=>h.of_block (hkB.block g h.lt (fun e=>by
     subst e
     exact hqA.cells_ne (.inl rfl) h.1))
    have HQB:=Lib.hid hqB
    have HSTB:=Lib.hid ((OStep.of_below (below_next HBW9.out hwA)).trans hstB)
    have HALLB:=Lib.hid (show RCont.Own wB (g8 + 1) _ _ from ⟨HALL9.out.1,ownsRow_maps (HALL9.out.of_new hwA).2 hkB hmm⟩)
    have HCPB:=Lib.hid (fun x hx=>((HCP9.out x hx).of_new hwA).maps hkB hmm)
    have HO6B:=Lib.hid (hdk (HO69.out.of_new hwA))
    have HO16B:=Lib.hid (hdk (HO169.out.of_new hwA))
    clear hc2 hdg hwA hqA hnone hmB hgB hsB hmB2 hqB hstB hkB hmm hdk
    have hcln:cs.length ≤ 1000:=HCL.out
    go_wp2
    go_loopw [21,22,23,96] (fun _ _ _ iv W'=>PubJ wB o t mb im bm most each life ET (I ++ [(nm,(u,xs))]) C cs iv W') (fun _ _ _ iv _=>cs.length - (intOf iv).toNat)
    case atStart=>exact ⟨0,C,Nat.zero_le _,rfl,HQB.out,rfl,(fun x hx=>.inl hx),Kept.refl _ _⟩
    case round=>
     rename World=>wC
     obtain ⟨j,Cj,hj,rfl,hqj,hcj,hmem,hkj⟩:=hrel
     have HMEM:=Lib.hid hmem
     clear hmem
     have hmmj:∀ q,¬ (q ≠ bm)→∀ cur ty f,wB.heap[q]? ≠ some (.cells cur ty f):=fun q hq cur ty f e=>by
      obtain rfl:q = bm:=Classical.not_not.1 hq
      exact HQB.out.cells_ne (.inr (.inl rfl)) e
     have hdk:∀ {g:Nat} {d:List UInt8},DigO wB g d→DigO wC g d:=fun {g d} h=>h.of_block (hkj.block g h.lt (fun e=>by
      subst e
      exact HQB.out.cells_ne (.inr (.inl rfl)) h.1))
     have HO6C:=Lib.hid (hdk HO6B.out)
     have HO16C:=Lib.hid (hdk HO16B.out)
     have hallC:RCont.Own wC (g8 + 1) _ _:=⟨HALLB.out.1,ownsRow_maps HALLB.out.2 hkj hmmj⟩
     have hcpC:∀ x ∈ cs,ContP wC 0 x.1 x.2:=fun x hx=>((HCPB.out x hx).maps hkj hmmj).mono (Nat.zero_le _)
     have hCjl:Cj.length ≤ 3000:=by
      have h1:=congrArg List.length hcj
      have h2:=addCs_len ((cs.take j).map plC) (C.map plC)
      simp only [List.length_map,List.length_take] at h1 h2
      have:=HCF.out
      omega
     have HQC:=Lib.hid hqj
     have HCJ:=Lib.hid hcj
     have HKJ:=Lib.hid hkj
     have HALLC:=Lib.hid hallC
     have HCPC:=Lib.hid hcpC
     have HCJL:=Lib.hid hCjl
     clear hqj hcj hkj hmmj hdk hallC hcpC hCjl
     by_cases hjl:j < cs.length
     ·have hjj:(j:Int) < (cs.length:Int):=by omega
      obtain ⟨b0,off,c0,hv,hbl,hat⟩:=HALLC.out.row.at_ (by rw [List.length_map];omega)
      rw [List.length_map] at hv
      obtain ⟨rfl,rfl⟩:aa = some ⟨b0,off,none⟩∧ac = c0:=by cases hv;exact ⟨rfl,rfl⟩
      obtain ⟨x,hx⟩:∃ x,cs[j]? = some x:=⟨_,List.getElem?_eq_getElem hjl⟩
      have hax:=hat j x.1 (by rw [List.getElem?_map,hx];rfl)
      have HAX:=Lib.hid hax
      have HX:=Lib.hid hx
      have HXO:=Lib.hid hax.1
      have HXP:=Lib.hid (HCPC.out x (List.mem_of_getElem? hx))
      have hx32:x.1.blob.dig.length = 32:=hax.1.1.1
      have HX32:=Lib.hid hx32
      clear hv hbl hat hx hax
      go_upto_region 25 with (first
       | ((with_reducible refine wpList_plain (o:=⟨some 99,Op.load _ _,_,_,_,_⟩) rfl fun K hK=>?_);(refine HAX.out.wp rfl rfl (hK _ _ ?_)))
       | ((with_reducible refine wpList_plain (o:=⟨some 21,Op.alloc _,_,_,_,_⟩) rfl fun K hK=>?_);(refine RCont.wp_alloc rfl fun wD hoD hbD hsD=>hK _ _ ?_);have HOD:=Lib.hid hoD;have HBD:=Lib.hid hbD;clear hoD hbD hsD)
       | ((with_reducible refine wpList_plain (o:=⟨none,Op.store _ (.tmp 21) (.tmp 99),_,_,_,_⟩) rfl fun K hK=>?_);(refine HOD.out.store (.tmp 21) (.tmp 99) rfl rfl rfl HXO.out fun wE hoE hgE hsE=>hK _ _ ?_);have HBE:=Lib.hid (HBD.out.grown hgE (by have:=HBD.out.size;omega) (fun k e=>by cases e;exact Nat.le_refl _));have HOE:=Lib.hid hoE;clear hoE hgE hsE))
      obtain ⟨g21,hg21⟩:∃ g,wC.heap.size = g:=⟨_,rfl⟩
      rw [hg21] at HOE ⊢
      clear hg21
      have HQE:=Lib.hid (HQC.out.of_new HBE.out)
      obtain ⟨x2,b2,is2,hi2,hv2, -,hl2, -⟩:=HQE.out.look_cont (d:=x.1.blob.dig) HX32.out
      have HI2:=Lib.hid hi2
      have HV2:=Lib.hid (RCont_ok hv2)
      have hc3:=fun w' (h:Grew wE w')=>Grew.cell h HQE.out.cell3
      have hdg:DigAt wE g21 0 x.1.blob.dig:=RCont_dig HOE.out.at_
      clear hi2 hv2 hx32
      refine (wpIn_wide (n:=5)).1 ?_
      refine wpIn_region_mix2 (ro:=none) (C:=Grew wE) [0,1,2,3,4,5,6,7,8] [9,10] [11] [12,13] (by kernel_rfl) (by kernel_rfl) (Grew.start _) (fun c a d v w h=>by cases d <;> exact h) ?_
      simp only [opsAt,List.flatMap_cons,List.flatMap_nil,List.getElem?_cons_zero,List.getElem?_cons_succ,Option.toList_some,List.cons_append,List.nil_append]
      go_simp
      repeat (first
       | (go_big_quiet_want;(with_reducible apply quiet_load_at (ty:=31) (x:=.tmp _));rfl;rfl;assumption;go_simp;go_big_quiet_on)
       | (go_big_quiet_want;apply quiet_val;(intro w' hw';go_simp;first | done | rfl);go_simp;go_big_quiet_on)
       | (go_big_quiet_skip))
      refine wpQuiet_nil ?_
      repeat (first
       | (go_big_quiet_want;apply quiet_val;(intro w' hw';go_simp;first | done | rfl);go_simp;go_big_quiet_on)
       | (go_big_quiet_skip))
      refine wpQuiet_nil ?_
      intro wF hwF
      refine LateL.cons rfl (RCont.wp_alloc rfl ?_)
      intro wG hoG hbG hsG
      have hwG:Grew wE wG:=below_next hwF hbG
      refine ⟨hwG,?_⟩
      refine LateL.nil ?_
      rw [wF_none]
      refine wpListIn_of_wp (ro:=none) rfl (fun c hc=>by cases hc) (hoG.store (x:=x2) (.tmp 22) (.tmp 109) rfl rfl rfl HV2.out ?_)
      intro wH hoH hgH hsH
      have hbH:Below wE.heap.size wE wH:=hwG.grown hgH (by have:=hwG.size;omega) (fun k e=>by cases e;exact hwF.size)
      have HBH:=Lib.hid (below_next HBE.out hbH)
      have HQH:=Lib.hid (HQE.out.of_new hbH)
      have HOH:=Lib.hid (HOE.out.of_new hbH)
      clear hl2 hc3 hdg hwF hoG hbG hsG hwG hoH hgH hsH hbH
      simp only [Act.put]
      rw [wF_none]
      gi_wp2
      have hstep:(cs.take (j + 1)).map plC = (cs.take j).map plC ++ [plC x]:=by
       rw [List.take_add_one,HX.out];simp
      have hfold:((cs.take (j + 1)).map plC).foldl addC (C.map plC) = addC (Cj.map plC) (plC x):=by
       rw [hstep,List.foldl_append,HCJ.out];rfl
      have HFOLD:=Lib.hid hfold
      have HKH:=Lib.hid (Kept.below HKJ.out HBH.out)
      clear hstep hfold
      cases is2 with
      | true=>
       have hsame:addC (Cj.map plC) (plC x) = Cj.map plC:=by
        unfold addC
        rw [show (plC x).1.dig = x.1.blob.dig from rfl,HI2.out];rfl
       have HSM:=Lib.hid (hsame.symm.trans HFOLD.out.symm)
       clear hsame
       go_wp2
       go_roundw
       case rel=>exact ⟨j + 1,Cj,by omega,by go_num,HQH.out,HSM.out,HMEM.out,HKH.out⟩
       case measure=>simp [intOf];omega
      | false=>
       have hnew:addC (Cj.map plC) (plC x) = (Cj ++ [x]).map plC:=by
        unfold addC
        rw [show (plC x).1.dig = x.1.blob.dig from rfl,HI2.out]
        simp
       have HSM:=Lib.hid (hnew.symm.trans HFOLD.out.symm)
       clear hnew
       go_upto_region 27 with (fail)
       have hc3:=fun w' (h:Grew wH w')=>Grew.cell h HQH.out.cell3
       have hdg:DigAt wH g21 0 x.1.blob.dig:=RCont_dig HOH.out.at_
       refine wp_region_grew_tail 8 (by kernel_rfl) (by kernel_rfl) ?_
       simp only [List.take_succ_cons,List.take_zero,List.drop_succ_cons,List.drop_zero]
       repeat (first
        | (go_big_quiet_want;(refine RecT.At.quiet (R:=RCont) (x:=x.1) (p:=.tmp 21) (fun w' hw'=>(HOH.out.of_new hw').at_) rfl rfl ?_);go_simp;go_big_quiet_on)
        | (go_big_quiet_want;(with_reducible apply quiet_load_at (ty:=31) (x:=.tmp _));rfl;rfl;assumption;go_simp;go_big_quiet_on)
        | (go_big_quiet_want;apply quiet_val;(intro w' hw';go_simp;first | done | rfl);go_simp;go_big_quiet_on)
        | (go_big_quiet_skip))
       refine wpQuiet_nil ?_
       intro wI hwI
       have hqI:=HQH.out.of_new hwI
       have hnone:∀ p ∈ Cj.map outC,p.1 ≠ x.1.blob.dig:=fun p hp=>by
        obtain ⟨y,hy,rfl⟩:=List.mem_map.1 hp
        exact contIn_none.1 (by rw [HI2.out];rfl) (plC y) (List.mem_map_of_mem hy)
       obtain ⟨wJ,hput,hmJ,hgJ,hsJ⟩:=hqI.blbs.put (t:=89) Tryz.underlying89 (KT:=KDig) (x:=x.1.blob.dig) HX32.out (RCont.V x.1) (by rw [List.length_map];have:=HCJL.out;omega)
       replace hput:(Instr.mapUpdate 89 (.map (some bm)) (.agg (x.1.blob.dig.map B8).toArray) (RCont.V x.1)).run Tryz.prog wI = .ok () wJ:=hput
       have hmJ2:MapL KDig wJ bm ((Cj ++ [x]).map outC):=by
        rw [List.map_append]
        exact hmJ.perm (putM_snoc hnone)
       obtain ⟨hqJ,hstJ⟩:=hqI.set_blbs (C':=Cj ++ [x]) hmJ2 hgJ (fun y hy=>by
        rcases List.mem_append.1 hy with hy | hy
        ·exact hqI.crow y hy
        ·rw [List.mem_singleton.1 hy]
         exact (HXP.out.of_new HBH.out).of_new hwI)
       have HQJ:=Lib.hid hqJ
       have HKK:=Lib.hid ((Kept.below HKH.out hwI).grown hgJ (fun r e h=>by cases e;exact h rfl))
       clear hc3 hdg hwI hqI hnone hmJ hgJ hsJ hmJ2 hqJ hstJ
       go_wp2
       go_roundw
       case rel=>exact ⟨j + 1,_,by omega,by go_num,HQJ.out,HSM.out,(fun y hy=>(List.mem_append.1 hy).elim (HMEM.out y) (fun h=>.inr (by rw [List.mem_singleton.1 h];exact List.mem_of_getElem? HX.out))),HKK.out⟩
       case measure=>simp [intOf];omega
     ·obtain rfl:j = cs.length:=by omega
      have hjj:¬ (cs.length:Int) < (cs.length:Int):=by omega
      have HDG:=Lib.hid HO16C.out.at_
      go_wp2_with (first
       | ((with_reducible refine wpList_plain (o:=⟨some 122,Op.load _ _,_,_,_,_⟩) rfl fun K hK=>?_);(refine wp_load_at (ty:=31) (x:=.tmp 16) rfl rfl HDG.out (hK _ _ ?_)))
       | ((with_reducible refine wpList_plain (o:=⟨none,Op.store _ (.tmp 6) (.tmp 122),_,_,_,_⟩) rfl fun K hK=>?_);(refine wp_store_digO (.tmp 6) (.tmp 122) g6 nm dig0 rfl rfl rfl HN32.out HO6C.out fun wA hoA hgA hsA=>hK _ _ ?_);have HOA:=Lib.hid hoA;have HGA:=Lib.hid hgA;clear hoA hgA hsA))
      refine bodyPost_ret (results_dig_tmp rfl _ rfl rfl HOA.out) rfl ?_
      rw [HT4.out]
      have hkA:Kept (fun q=>q ≠ g6) wC wA:=(Kept.refl _ wC).grown HGA.out fun r e=>by cases e;exact fun h=>h rfl
      have hstC:Kept (fun q=>¬ FootM mb im bm ET q) w wC:=by
       have h1:=HSTB.out.kept
       exact h1.trans ⟨HKJ.out.os,HKJ.out.tape,HKJ.out.output,HKJ.out.size,fun q hq hu=>HKJ.out.block q hq (fun e=>hu (.inr (.inl e)))⟩
      refine ⟨FootM mb im bm ET,rfl,⟨t,mb,im,bm,ET,_,_,HQC.out.kept2 hkA (fun q hq e=>?_) (fun q cur ty f he ht hn e=>?_) (fun y hy q hq e=>?_),?_,rfl,fun y hy q hq e=>?_⟩,⟨hstC.fresh HGA.out HN0.out,HSTB.out.own⟩⟩
      ·subst e
       exact HQC.out.cells_ne hq HO6C.out.1
      ·subst e
       rw [HO6C.out.1] at he
       cases he
       exact hn rfl
      ·rcases HMEM.out y hy with hy | hy
       ·have h1:=(World.ownsRow.lt (HQ0.out.crow y hy).leaves.2 q hq).2
        have h2:=HN0.out
        omega
       ·have h1:=(World.ownsRow.lt (HCPB.out y hy).leaves.2 q hq).1
        have h2:=HLT68.out
        omega
      ·rw [HCJ.out,List.take_length,List.map_append];rfl
      ·rcases HMEM.out y hy with hy | hy
       ·exact HXX.out y hy q hq e
       ·have h1:=(World.ownsRow.lt (HCPB.out y hy).leaves.2 q hq).1
        have h2:=HLT68.out
        have h3:=HXB.out q e
        have h4:=HN0.out
        omega
theorem OPublish_any (o:Nat) (most each life:Int) (S:OrgL) (F:Nat→Prop) (v:Value) (ls:List (List UInt8)) (k:Int) (w:World) (hO:OrgP w o most each life S F) (hk:OrgOk most each S) (hp:PartsV w v ls) (hl:ls.length ≤ 1000) (hKc:Consts w) :
  Calls Tryz.prog 12 #[.pointer (some ⟨o,0,none⟩),v,.int .i64 k] w (PubPost w o most each life F (pubL S ls k)):=
 (OPublish_X o most each life S F (fun _=>False) v ls k w (hO.orgX fun _ _ h=>h) (fun _ h=>h.elim) hk hp hl hKc).mono fun e w' h=>by
  obtain ⟨F',e1,h1,h2⟩:=h
  exact ⟨F',e1,h1.org,h2⟩
end Go.Proofs.YtnohglkilpnjhaaGreatDoor
