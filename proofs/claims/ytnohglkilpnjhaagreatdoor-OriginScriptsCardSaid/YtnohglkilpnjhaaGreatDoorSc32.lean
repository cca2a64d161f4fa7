/- Lemmas that the statement of this claim leans on; their own comments are taken out, for the size of the claim. No condition beyond what each lemma states. -/
import Derived.Test.YtnohglkilpnjhaaGreatDoorSc31
set_option linter.unusedVariables false
set_option linter.unusedSimpArgs false
set_option linter.unusedSectionVars false
namespace Go.Proofs.YtnohglkilpnjhaaGreatDoor
open Go.RowKit
set_option maxRecDepth 100000
theorem wp_build_rb {w:World} {o:Oper} {a:Act} {K:Act→World→Prop} {Q:Exit→Act→World→Prop} {p0 p1:Operand} (x:BlobL) (v:Value) (hx:x.ok) (hv:v.cells = #[v])
  (ho:o.op = .build 135 #[(0,p0),(1,p1)]) (h0:a.eval p0 = RBlob.V x) (h1:a.eval p1 = v) (hK:K (a.put o.dst (RRB.V (x,v))) w):o.wp Tryz.prog a w K Q:=by
 refine wp_val ?_ hK
 have:=run_build_rb x v hx hv w
 replace h0:a.eval p0 = BlobV x:=h0
 unfold execOp
 simp only [ho,List.map_toArray,List.map_cons,List.map_nil,h0,h1,Sem.run_bind,this,Result.andThen_ok,Sem.run_pure]
theorem heap_setCell_at {W:World} {r j:Nat} {cells:Array Value} {ty:TypeId} {f:Nat × Nat} (h:W.heap[r]? = some (.cells cells ty f)) (u:Value):(W.setCell ⟨r,j,none⟩ u).heap[r]? = some (.cells (cells.setIfInBounds j u) ty f):=by
 obtain ⟨hl,hkk⟩:=Array.getElem?_eq_some_iff.1 h
 show (W.heap.modify r _)[r]? = _
 rw [Array.getElem?_eq_getElem (by rw [Array.size_modify];exact hl),Array.getElem_modify_self,hkk]
 rfl
theorem ROrgQ.put_imgs {w W w':World} {r rt:Nat} {many most life:Int} {B:Nat} {v:Value} {L:RefL} {T:TabL} {vi vb v2:Value} {I:List ImgR} {C:List RCntR} {I2:List ImgR} (h:ROrgQ w r rt many most life B v L T vi vb I C) (hg:w.grownBy W vi.ownBlock)
  (ho:RNamed.Own W B v2 (I2.map plN)) (hi:∀ x ∈ I2,RBlob.Own w B x.2.1 x.2.2) (hW:W.setCell ⟨r,2,none⟩ v2 = w'):ROrgQ w' r rt many most life B v L T v2 vb I2 C∧RKept B w w':=by
 have hk:Kept (fun k=>k ≠ r∧vi.ownBlock ≠ some k) w w':=by
  subst hW
  exact ((Kept.refl _ w).grown hg (fun r e h=>h.2 e)).setCell (fun h=>h.1 rfl) _
 have hty:∀ {k:Nat} {cur:Array Value} {ty:TypeId} {f:Nat × Nat},w.heap[k]? = some (.cells cur ty f)→ty ≠ 132→ty ≠ 77→k ≠ r∧vi.ownBlock ≠ some k:=fun {k cur ty f} e h1 h2=>
  ⟨fun e2=>(by subst e2;exact h2 (cells_ty e h.org)),fun e2=>by
   obtain ⟨cur2,e3⟩:=ownsRow_block h.imgs.2 e2
   exact h1 (cells_ty e e3)⟩
 have hkeep:∀ {base:Nat} {e:TypeId} {size n:Nat} {v:Value} {xs:List Value},w.ownsRow base e size v n xs→e ≠ 132→e ≠ 77→w'.ownsRow base e size v n xs:=fun hr h1 h2=>ownsRow_same hr fun k hv=>by
  obtain ⟨cur,e⟩:=ownsRow_block hr hv
  exact hk.block k (World.ownsRow.lt hr k hv).2 (hty e h1 h2)
 have horgW:W.heap[r]? = some (.cells #[.pointer (some ⟨rt,0,none⟩),.int .i64 life,vi,vb] 77 (0,0)):=(hg.block r h.rlt fun e=>by
  obtain ⟨cur2,e3⟩:=ownsRow_block h.imgs.2 e.symm
  exact absurd (cells_ty h.org e3) (by decide)).trans h.org
 have hob:∀ k,v2.ownBlock = some k→k ≠ r:=fun k hk2 e=>by
  subst e
  obtain ⟨cur2,e3⟩:=ownsRow_block ho.2 hk2
  exact absurd (cells_ty horgW e3) (by decide)
 refine ⟨⟨?_,h.base,h.tab.kept hk (hty h.tab.tab (by decide) (by decide)) (fun k hv=>?_) (fun i x y hx hy k hv=>?_),(ho.kept fun k hk2=>by subst hW;exact Below.heap_setCell _ _ _ _ (hob k hk2)),fun x hx=>⟨(hi x hx).1,hkeep (hi x hx).2 (by decide) (by decide)⟩,⟨h.blbs.1,hkeep h.blbs.2 (by decide) (by decide)⟩,fun x hx=>hkeep (h.brow x hx) (by decide) (by decide)⟩,?_⟩
 ·subst hW
  rw [heap_setCell_at horgW];rfl
 ·obtain ⟨cur,e⟩:=ownsRow_block h.tab.own.2 hv
  exact hty e (by decide) (by decide)
 ·obtain ⟨cur,e⟩:=ownsRow_block (h.tab.rows i x y hx hy).2 hv
  exact hty e (by decide) (by decide)
 ·refine Kept.mono hk fun k hlt hx=>⟨fun e=>hx ?_,fun e=>hx ?_⟩
  ·subst e
   exact ⟨h.base,_,_,_,h.org,.inl rfl⟩
  ·obtain ⟨cur,e3⟩:=ownsRow_block h.imgs.2 e
   exact ⟨(h.imgs.lt k e).1,_,_,_,e3,.inr (.inr (.inr (.inl rfl)))⟩
theorem ROrgQ.put_blbs {w W w':World} {r rt:Nat} {many most life:Int} {B:Nat} {v:Value} {L:RefL} {T:TabL} {vi vb v2:Value} {I:List ImgR} {C:List RCntR} {C2:List RCntR} (h:ROrgQ w r rt many most life B v L T vi vb I C) (hg:w.grownBy W vb.ownBlock)
  (ho:RRB.Own W B v2 (C2.map (·.1))) (hi:∀ x ∈ C2,Own8 w B 5 x.1.2 x.2) (hW:W.setCell ⟨r,3,none⟩ v2 = w'):ROrgQ w' r rt many most life B v L T vi v2 I C2∧RKept B w w':=by
 have hk:Kept (fun k=>k ≠ r∧vb.ownBlock ≠ some k) w w':=by
  subst hW
  exact ((Kept.refl _ w).grown hg (fun r e h=>h.2 e)).setCell (fun h=>h.1 rfl) _
 have hty:∀ {k:Nat} {cur:Array Value} {ty:TypeId} {f:Nat × Nat},w.heap[k]? = some (.cells cur ty f)→ty ≠ 135→ty ≠ 77→k ≠ r∧vb.ownBlock ≠ some k:=fun {k cur ty f} e h1 h2=>
  ⟨fun e2=>(by subst e2;exact h2 (cells_ty e h.org)),fun e2=>by
   obtain ⟨cur2,e3⟩:=ownsRow_block h.blbs.2 e2
   exact h1 (cells_ty e e3)⟩
 have hkeep:∀ {base:Nat} {e:TypeId} {size n:Nat} {v:Value} {xs:List Value},w.ownsRow base e size v n xs→e ≠ 135→e ≠ 77→w'.ownsRow base e size v n xs:=fun hr h1 h2=>ownsRow_same hr fun k hv=>by
  obtain ⟨cur,e⟩:=ownsRow_block hr hv
  exact hk.block k (World.ownsRow.lt hr k hv).2 (hty e h1 h2)
 have horgW:W.heap[r]? = some (.cells #[.pointer (some ⟨rt,0,none⟩),.int .i64 life,vi,vb] 77 (0,0)):=(hg.block r h.rlt fun e=>by
  obtain ⟨cur2,e3⟩:=ownsRow_block h.blbs.2 e.symm
  exact absurd (cells_ty h.org e3) (by decide)).trans h.org
 have hob:∀ k,v2.ownBlock = some k→k ≠ r:=fun k hk2 e=>by
  subst e
  obtain ⟨cur2,e3⟩:=ownsRow_block ho.2 hk2
  exact absurd (cells_ty horgW e3) (by decide)
 refine ⟨⟨?_,h.base,h.tab.kept hk (hty h.tab.tab (by decide) (by decide)) (fun k hv=>?_) (fun i x y hx hy k hv=>?_),⟨h.imgs.1,hkeep h.imgs.2 (by decide) (by decide)⟩,fun x hx=>⟨(h.irow x hx).1,hkeep (h.irow x hx).2 (by decide) (by decide)⟩,(ho.kept fun k hk2=>by subst hW;exact Below.heap_setCell _ _ _ _ (hob k hk2)),fun x hx=>hkeep (hi x hx) (by decide) (by decide)⟩,?_⟩
 ·subst hW
  rw [heap_setCell_at horgW];rfl
 ·obtain ⟨cur,e⟩:=ownsRow_block h.tab.own.2 hv
  exact hty e (by decide) (by decide)
 ·obtain ⟨cur,e⟩:=ownsRow_block (h.tab.rows i x y hx hy).2 hv
  exact hty e (by decide) (by decide)
 ·refine Kept.mono hk fun k hlt hx=>⟨fun e=>hx ?_,fun e=>hx ?_⟩
  ·subst e
   exact ⟨h.base,_,_,_,h.org,.inl rfl⟩
  ·obtain ⟨cur,e3⟩:=ownsRow_block h.blbs.2 e
   exact ⟨(h.blbs.lt k e).1,_,_,_,e3,.inr (.inr (.inr (.inr rfl)))⟩
theorem ROrgQ.kept_dig {w w':World} {r rt:Nat} {many most life:Int} {B:Nat} {v:Value} {L:RefL} {T:TabL} {vi vb:Value} {I:List ImgR} {C:List RCntR} {g:Nat} {d:List UInt8} (h:ROrgQ w r rt many most life B v L T vi vb I C) (hm:DigO w g d) (hg:w.grownBy w' (some g)):ROrgQ w' r rt many most life B v L T vi vb I C:=by
 have hk:Kept (fun q=>q ≠ g) w w':=(Kept.refl _ w).grown hg fun r e=>by cases e;exact fun h=>h rfl
 have hc:∀ {k:Nat} {cur:Array Value} {ty:TypeId} {f:Nat × Nat},w.heap[k]? = some (.cells cur ty f)→ty ≠ 31→k ≠ g:=fun e hn e2=>by
  subst e2
  exact hn (cells_ty e hm.1)
 have hr:∀ {base:Nat} {e:TypeId} {size n:Nat} {v:Value} {xs:List Value},w.ownsRow base e size v n xs→e ≠ 31→w'.ownsRow base e size v n xs:=fun hr hn=>ownsRow_same hr fun k hv=>by
  obtain ⟨cur,e⟩:=ownsRow_block hr hv
  exact hk.block k (World.ownsRow.lt hr k hv).2 (hc e hn)
 refine ⟨(hk.block r h.rlt (hc h.org (by decide))).trans h.org,h.base,h.tab.kept hk (hc h.tab.tab (by decide)) (fun k hv=>?_) (fun i x y hx hy k hv=>?_),⟨h.imgs.1,hr h.imgs.2 (by decide)⟩,fun x hx=>⟨(h.irow x hx).1,hr (h.irow x hx).2 (by decide)⟩,⟨h.blbs.1,hr h.blbs.2 (by decide)⟩,fun x hx=>hr (h.brow x hx) (by decide)⟩
 ·obtain ⟨cur,e⟩:=ownsRow_block h.tab.own.2 hv
  exact hc e (by decide)
 ·obtain ⟨cur,e⟩:=ownsRow_block (h.tab.rows i x y hx hy).2 hv
  exact hc e (by decide)
theorem quiet_build_named {C:World→Prop} {o:Oper} {a:Act} {K:Act→Prop} {p0 p1:Operand} (d:List UInt8) (v:Value) (hd:d.length = 32) (ho:o.op = .build 132 #[(0,p0),(1,p1)]) (h0:a.eval p0 = .agg (d.map B8).toArray) (h1:a.eval p1 = RImg.V v)
  (hK:K (a.put o.dst (RNamed.V (d,v)))):o.quiet Tryz.prog a C K:=by
 refine quiet_val (fun w _=>?_) hK
 have:=run_build_named d v hd w
 replace h1:a.eval p1 = .agg #[v]:=h1
 unfold execOp
 simp only [ho,List.map_toArray,List.map_cons,List.map_nil,h0,h1,Sem.run_bind,this,Result.andThen_ok,Sem.run_pure]
def RPubJ (w0 Wst:World) (g8 r rt:Nat) (many most life:Int) (B:Nat) (v:Value) (L:RefL) (T:TabL) (vi:Value) (I:List ImgR) (C0 cs:List RCntR) (iv:Value) (W:World):Prop:=
 ∃ (j:Nat) (Cj:List RCntR) (vb:Value),j ≤ cs.length∧iv = .int .i64 j∧ROrgQ W r rt many most life B v L T vi vb I Cj∧Cj.map plR = ((cs.take j).map plR).foldl addC (C0.map plR)∧(∀ k,vb.ownBlock = some k→k < w0.heap.size∨Wst.heap.size ≤ k)∧Kept (fun q=>w0.heap.size ≤ q) Wst W∧RKept B Wst W
def RPubI (W2:World) (g8:Nat) (k:Int) (ls:List (List UInt8)) (av iv:Value) (W:World):Prop:=
 ∃ (i:Nat) (cs:List RCntR) (u cv:Value),i ≤ ls.length∧iv = .int .i64 i∧cv = av∧layersOk k (ls.take i) = true∧cs.map plR = contsL k (ls.take i)∧One W g8 u 52∧RBlob.Own W (g8 + 1) u (blobsL k (ls.take i)) ∧
  RRB.Own W (g8 + 1) cv (cs.map (·.1))∧(∀ x ∈ cs,Own8 W (g8 + 1) 5 x.1.2 x.2)∧Below W2.heap.size W2 W
def RPubPost (w:World) (r:Nat) (many most life:Int) (B:Nat) (q:OrgL × List UInt8 × Int) (e:Ending) (w':World):Prop:=
 e = .returned (.tuple #[.agg (q.2.1.map B8).toArray,.int .i64 q.2.2])∧ROrgP w' r many most life B q.1∧RKept B w w'
set_option maxHeartbeats 6400000 in
theorem ROPublish_any (r:Nat) (many most life:Int) (B:Nat) (S:OrgL) (v:Value) (ls:List (List UInt8)) (k:Int) (w:World) (hR:ROrgP w r many most life B S) (hk:OrgOk many most S) (hp:PartsV w v ls) (hl:ls.length ≤ 1000) (hKc:Consts w) (hB:B ≤ w.heap.size) :
  Calls Tryz.prog 60 #[.pointer (some ⟨r,0,none⟩),v,.int .i64 k] w (RPubPost w r many most life B (pubL S ls k)):=by
 obtain ⟨va,vc,hv⟩:=hp.len
 subst hv
 have HP:=Lib.hid hp
 have HO:=Lib.hid hR
 have HK:=Lib.hid hk
 have HKC:=Lib.hid hKc
 have HBB:=Lib.hid hB
 obtain ⟨n,hn⟩:∃ n,ls.length = n:=⟨_,rfl⟩
 rw [hn] at hl HP ⊢
 have HN:=Lib.hid hn
 clear hp hR hk hKc hn hB
 go_enter Tryz.func60,Tryz.ntmps60
 go_upto_region 1 with ((with_reducible refine wpList_plain (o:=⟨some 6,Op.alloc _,_,_,_,_⟩) rfl fun K hK=>?_);(refine wp_alloc_dig rfl fun w1 ho1 hb1 hs1=>hK _ _ ?_);have HO1:=Lib.hid ho1;have HB1:=Lib.hid hb1;clear ho1 hb1 hs1)
 obtain ⟨g6,hg6⟩:∃ g,w.heap.size = g:=⟨_,rfl⟩
 have HG6:=Lib.hid hg6
 rw [hg6] at HO1 ⊢
 obtain ⟨g8,hg8⟩:∃ g,w1.heap.size = g:=⟨_,rfl⟩
 have HG8:=Lib.hid hg8
 have hlt68:g6 < g8:=by rw [← hg8];exact HO1.out.lt
 have HLT68:=Lib.hid hlt68
 clear hg6 hg8 hlt68
 go_upto_region 3 with ((with_reducible refine wpList_plain (o:=⟨some 8,Op.alloc _,_,_,_,_⟩) rfl fun K hK=>?_);(refine RImg.wp_alloc rfl fun w3 ho3 hb3 hs3=>hK _ _ ?_);rw [HG8.out] at ho3 hs3 ⊢;have HO3:=Lib.hid ho3;have HB3:=Lib.hid hb3;clear ho3 hb3 hs3)
 go_wp2
 go_loopw [9,10,11,12] (fun av iv _ _ W'=>RPubI w1 g8 k ls av iv W') (fun _ iv _ _ _=>n - (intOf iv).toNat)
 case atStart=>exact ⟨0,[],_,_,Nat.zero_le _,rfl,rfl,rfl,rfl,RImg_one HO3.out,RecT.Own.nil _ _,RecT.Own.nil _ _,(fun x hx=>by cases hx),HB3.out⟩
 case round=>
  obtain ⟨i,cs,u,av,hi,rfl,rfl,hok,hcs,hone,hown,hall,hcp,hbr⟩:=hrel
  rw [HN.out] at hi
  by_cases hlt:i < n
  ·have hii:(i:Int) < (n:Int):=by omega
   obtain ⟨pb,poff,pc,hpv,hpb,hat⟩:=HP.out.at_ (by rw [HN.out];omega)
   rw [HN.out] at hpv hat
   obtain ⟨rfl,rfl⟩:va = some ⟨pb,poff,none⟩∧vc = pc:=by cases hpv;exact ⟨rfl,rfl⟩
   obtain ⟨ua,uc,hcell0,hub0⟩:=hat i hlt
   have hB1r:Below w.heap.size w wr:=below_next HB1.out hbr
   have hcell:=(hB1r.cell (p:=⟨pb,poff + i,none⟩) hpb).trans hcell0
   have hub:=hub0.of_new hB1r
   have hst1:=layersOk_step (k:=k) (ls:=ls) (i:=i) (by rw [HN.out];exact hlt)
   have hst2:=blobsL_step (k:=k) (ls:=ls) (i:=i) (by rw [HN.out];exact hlt)
   have hst3:=contsL_step (k:=k) (ls:=ls) (i:=i) (by rw [HN.out];exact hlt)
   have hno:=layersOk_no (k:=k) (ls:=ls) (i:=i) (by rw [HN.out];exact hlt)
   obtain ⟨b,hbb⟩:∃ b,ls.getD i [] = b:=⟨_,rfl⟩
   rw [hbb] at hcell hub hub0 hst1 hst2 hst3 hno hcell0
   have hYO:=blobE_ok b k
   have hBl:=fun W h=>RBlob_any (.slice ua b.length uc) b k W h
   have HHY:=Lib.hid hYO
   have HBl:=Lib.hid hBl
   have HUB:=Lib.hid hub
   have HUB0:=Lib.hid hub0
   have HCELL0:=Lib.hid (show w.cell? ⟨pb,poff + i,none⟩ = some (.slice ua b.length uc)∧pb < w.heap.size from ⟨hcell0,hpb⟩)
   have HST1:=Lib.hid hst1
   have HST2:=Lib.hid hst2
   have HST3:=Lib.hid hst3
   have HNO:=Lib.hid hno
   have HOK:=Lib.hid hok
   have HCS:=Lib.hid hcs
   have HONE:=Lib.hid hone
   have HOWN:=Lib.hid hown
   have HALL:=Lib.hid hall
   have HCP:=Lib.hid hcp
   have HBR:=Lib.hid hbr
   have HB1R:=Lib.hid hB1r
   clear hpv hat hcell0 hub0 hbb hst1 hst2 hst3 hno hok hcs hone hown hall hcp hbr hub hB1r hYO hBl hpb
   rcases hrb:mrightB b.length k with _ | _
   ·have HE:=Lib.hid (blobE_no hrb)
    have HT:=Lib.hid (show pubL S ls k = (S,dig0,1) by unfold pubL;rw [HNO.out hrb];rfl)
    clear hrb
    rw [HE.out] at HBl HHY
    go_wp2_with (first
     | (go_at_call 96;refine (HBl.out _ HUB.out).mono ?_;unfold BlobPost;rintro e w4 ⟨rfl,hb4⟩;have HB4:=Lib.hid (below_next HB1R.out hb4);have HO14:=Lib.hid (HO1.out.of_new (below_next HBR.out hb4));clear hb4)
     | ((with_reducible refine wpList_plain (o:=⟨some 11,Op.alloc _,_,_,_,_⟩) rfl fun K hK=>?_);(refine RBlob.wp_alloc rfl fun w5 ho5 hb5 hs5=>hK _ _ ?_);have HO5:=Lib.hid ho5;have HB5:=Lib.hid hb5;clear ho5 hb5 hs5)
     | ((with_reducible refine wpList_plain (o:=⟨none,Op.store _ (.tmp 11) (.tmp 31),_,_,_,_⟩) rfl fun K hK=>?_);(refine HO5.out.store (.tmp 11) (.tmp 31) rfl rfl rfl HHY.out fun w6 ho6 hg6 hs6=>hK _ _ ?_);have hb6:=HB5.out.grown hg6 (by have:=HB5.out.size;omega) (fun k e=>by cases e;exact Nat.le_refl _);have HB6:=Lib.hid (below_next HB4.out hb6);have HO16:=Lib.hid (HO14.out.of_new hb6);clear ho6 hg6 hs6 hb6)
     | ((with_reducible refine wpList_plain (o:=⟨none,Op.store _ (.tmp 6) (.tmp 35),_,_,_,_⟩) rfl fun K hK=>?_);(refine wp_store_digO (.tmp 6) (.tmp 35) g6 dig0 dig0 rfl rfl rfl rfl HO16.out fun w7 ho7 hg7 hs7=>hK _ _ ?_);have HO7:=Lib.hid ho7;have HG7:=Lib.hid hg7;clear ho7 hg7 hs7))
    refine bodyPost_ret (results_dig_tmp rfl _ rfl rfl HO7.out) rfl ?_
    rw [HT.out]
    have hbl:Below w.heap.size w w7:=HB6.out.grown HG7.out (by have:=HB6.out.size;omega) (fun k e=>by cases e;have:=HG6.out;omega)
    exact ⟨rfl,HO.out.of_new hbl,RKept.of_below hbl⟩
   ·have HE:=Lib.hid (blobE_yes hrb)
    have HST1':=Lib.hid (show layersOk k (ls.take (i + 1)) = true by rw [HST1.out,HOK.out,hrb];rfl)
    have HBLN:=Lib.hid (Int.ofNat_le.1 (right_parts hrb).2.1)
    clear hrb
    obtain ⟨y,hy⟩:∃ y,(blobE b k).1 = y:=⟨_,rfl⟩
    rw [hy] at HHY HE HST2 HST3
    rw [HE.out] at HBl
    clear hy
    have hls:ls.length = n:=HN.out
    have hcl:cs.length = i:=by
     have:=congrArg List.length HCS.out
     simpa [contsL,hls,Nat.le_of_lt hlt] using this
    have hbl0:(blobsL k (ls.take i)).length = i:=by simp [blobsL,hls,Nat.le_of_lt hlt]
    have HCL:=Lib.hid hcl
    have HBL0:=Lib.hid hbl0
    clear hcl hbl0 hls
    go_upto_region 9 with (first
     | (go_at_call 96;refine (HBl.out _ HUB.out).mono ?_;unfold BlobPost;rintro e w4 ⟨rfl,hb4⟩;have HB4:=Lib.hid (below_next HB1R.out hb4);have HR4:=Lib.hid hb4;clear hb4)
     | ((with_reducible refine wpList_plain (o:=⟨some 11,Op.alloc _,_,_,_,_⟩) rfl fun K hK=>?_);(refine RBlob.wp_alloc rfl fun w5 ho5 hb5 hs5=>hK _ _ ?_);have HO5:=Lib.hid ho5;have HB5:=Lib.hid hb5;clear ho5 hb5 hs5)
     | ((with_reducible refine wpList_plain (o:=⟨none,Op.store _ (.tmp 11) (.tmp 31),_,_,_,_⟩) rfl fun K hK=>?_);(refine HO5.out.store (.tmp 11) (.tmp 31) rfl rfl rfl HHY.out fun w6 ho6 hg6 hs6=>hK _ _ ?_);have hb6:=HB5.out.grown hg6 (by have:=HB5.out.size;omega) (fun k e=>by cases e;exact Nat.le_refl _);have HO12:=Lib.hid ho6;have HR6:=Lib.hid (below_next HR4.out hb6);have HB6:=Lib.hid (below_next HB4.out hb6);clear ho6 hg6 hs6 hb6))
    obtain ⟨g12,hg12⟩:∃ g,w4.heap.size = g:=⟨_,rfl⟩
    rw [hg12] at HO12 ⊢
    have HG12:=Lib.hid hg12
    have hone7:=HONE.out.of_new HR6.out
    have hcg:=hone7.cell
    have HONE7:=Lib.hid hone7
    have HOWN7:=Lib.hid (HOWN.out.of_new HR6.out)
    have HALL7:=Lib.hid (HALL.out.of_new HR6.out)
    have HCP7:=Lib.hid (fun x hx=>Own8.new (HCP.out x hx) HR6.out)
    clear hone7 hg12
    go_upto_region 10 with (first
     | ((with_reducible refine wpList_plain (o:=⟨some 39,Op.load _ _,_,_,_,_⟩) rfl fun K hK=>?_);(refine HO12.out.at_.wp rfl rfl (hK _ _ ?_)))
     | ((with_reducible refine wpList_plain (o:=⟨some 40,Op.buildSlice _ _ _,_,_,_,_⟩) rfl fun K hK=>?_);(refine RBlob.wp_build1 (x:=y) Tryz.underlying50 (.tmp 39) HHY.out rfl rfl fun w8 ho8 hb8 hs8=>hK _ _ ?_);have HO8:=Lib.hid ho8;have HR8:=Lib.hid hb8;have HONE8:=Lib.hid (HONE7.out.of_new hb8);have HWN8:=Lib.hid (HOWN7.out.of_new hb8);clear ho8 hb8 hs8)
     | ((with_reducible refine wpList_plain (o:=⟨some 41,_,_,_,_,_⟩) rfl fun K hK=>?_);(refine HWN8.out.app Tryz.underlying50 (.tmp 38) (.tmp 40) rfl rfl rfl HO8.out.row (by have:=HBL0.out;simp;omega) (by have:=HONE8.out.lt;omega) fun v' w9 hoA hgA hkA=>hK _ _ ?_);obtain ⟨a9,c9,hv9⟩:=hoA.row.len;subst hv9;have hone9:=HONE8.out.grown hgA (fun e=>by have:=(HWN8.out.lt g8 e.symm).1;omega);have hcg9:=hone9.cell;have hfg9:=hone9.free;have HONE9:=Lib.hid hone9;have HOA:=Lib.hid hoA;have HGA:=Lib.hid hgA;clear hoA hgA hkA hone9))
    generalize hW10:w9.setCell _ _ = w10
    obtain ⟨xs,hxs⟩:∃ xs,blobsL k (ls.take i) = xs:=⟨_,rfl⟩
    rw [hxs] at HOA HST2 HBL0 HWN8 hW10
    clear hxs
    have hk10:Kept (fun q=>q ≠ g8∧u.ownBlock ≠ some q) w8 w10:=by
     subst hW10
     exact ((Kept.refl _ w8).grown HGA.out (fun r e h=>h.2 e)).setCell (fun h=>h.1 rfl) _
    have hlt8:=HONE8.out.lt
    have keep:∀ {base:Nat} {e:TypeId} {size n:Nat} {v:Value} {ws:List Value},w8.ownsRow base e size v n ws→g8 < base→e ≠ 81→w10.ownsRow base e size v n ws:=fun hr hb he=>ownsRow_same hr fun q hq=>by
     refine hk10.block q (World.ownsRow.lt hr q hq).2 ⟨fun e2=>?_,fun e2=>?_⟩
     ·have:=(World.ownsRow.lt hr q hq).1
      omega
     ·obtain ⟨cur,h1⟩:=ownsRow_block hr hq
      obtain ⟨cur2,h2⟩:=ownsRow_block HWN8.out.2 e2
      rw [h1] at h2
      exact he (by cases h2;rfl)
    have hone10:One w10 g8 (.slice a9 (xs ++ [y]).length c9) 52:=by
     subst hW10
     have h:=HONE9.out.set (.slice a9 (xs.length + 1) c9)
     rw [show (xs ++ [y]).length = xs.length + 1 by simp]
     simpa using h
    have hown10:RBlob.Own w10 (g8 + 1) (.slice a9 (xs ++ [y]).length c9) (xs ++ [y]):=by
     subst hW10
     exact HOA.out.kept fun q hq=>Below.heap_setCell _ _ _ _ (by have:=(HOA.out.lt q hq).1;show q ≠ g8;omega)
    have hall10:RRB.Own w10 (g8 + 1) av (cs.map (·.1)):=⟨HALL7.out.1,keep (HALL7.out.of_new HR8.out).2 (by omega) (by decide)⟩
    have hcp10:∀ x ∈ cs,Own8 w10 (g8 + 1) 5 x.1.2 x.2:=fun x hx=>keep (Own8.new (HCP7.out x hx) HR8.out) (by omega) (by decide)
    have ho1210:RBlob.O w10 g12 y:=(HO12.out.of_new HR8.out).of_block (hk10.block g12 (HO12.out.of_new HR8.out).lt ⟨fun e=>by have:=HG12.out;have:=HR4.out.size;have:=HONE.out.lt;omega,fun e=>by have:=(HOWN.out.lt g12 e).2;have:=HG12.out;have:=HR4.out.size;omega⟩)
    have hb10:Below w1.heap.size w1 w10:=by
     have h8:Below w1.heap.size w1 w8:=below_next HBR.out (below_next HR6.out HR8.out)
     refine hk10.to_below h8 h8.size fun q hq=>⟨fun e=>by have:=HG8.out;omega,fun e=>by have:=(HWN8.out.lt q e).1;have:=HG8.out;omega⟩
    have hB10:=HB1.out.trans (hb10.mono HB1.out.size)
    have hbs:=HUB0.out.of_new hB10
    have hcl10:=(hB10.cell (p:=⟨pb,poff + i,none⟩) HCELL0.out.2).trans HCELL0.out.1
    have hcl10':=fun w' (h:Grew w10 w')=>Grew.cell h hcl10
    have HONE10:=Lib.hid hone10
    have HOWN10:=Lib.hid hown10
    have HALL10:=Lib.hid hall10
    have HCP10:=Lib.hid hcp10
    have HO1210:=Lib.hid ho1210
    have HB10:=Lib.hid hb10
    have HBS:=Lib.hid hbs
    clear hW10 hcg hcg9 hfg9 hk10 keep hone10 hown10 hall10 hcp10 ho1210 hb10 hB10 hbs hlt8 hcell hcl10
    refine (wpIn_wide (n:=5)).1 ?_
    refine wpIn_region_mix (ro:=none) (C:=Grew w10) [0,1,3,4,5,6] [2,7,8,9] [10,11] (by kernel_rfl) (by kernel_rfl) (Grew.start _) (fun c a d v w h=>by cases d <;> exact h) ?_
    simp only [opsAt,List.flatMap_cons,List.flatMap_nil,List.getElem?_cons_zero,List.getElem?_cons_succ,Option.toList_some,List.cons_append,List.nil_append]
    go_simp
    repeat (first
     | (go_big_quiet_want;(refine RecT.At.quiet (R:=RBlob) (x:=y) (p:=.tmp 11) (fun w' hw'=>(HO1210.out.of_new hw').at_) rfl rfl ?_);go_simp;go_big_quiet_on)
     | (go_big_quiet_want;(with_reducible apply quiet_load_at (ty:=31) (x:=.tmp _));rfl;rfl;assumption;go_simp;go_big_quiet_on)
     | (go_big_quiet_want;apply quiet_val;(intro w' hw';go_simp;first | done | rfl);go_simp;go_big_quiet_on)
     | (go_big_quiet_skip))
    refine wpQuiet_nil ?_
    intro w11 hw11
    refine LateL.cons rfl (wp_build8 rfl ?_)
    intro w12 ho12 hb12 hs12
    have hw12:Grew w10 w12:=below_next hw11 hb12
    refine ⟨hw12,?_⟩
    obtain ⟨iv8,hiv,hz0,hz1,hz2⟩:=info_parts infoU8
    refine LateL.cons rfl (wp_app8 (.tmp 45) (.tmp 49) 33 rfl w11.heap.size 5 iv8 Tryz.underlying33 hiv hz0 hz1 hz2 _ [] rfl ho12 _ b rfl (HBS.out.of_new hw12) (by have:=HBLN.out;simp;omega) (by omega) ?_)
    intro v13 w13 ho13 hg13 hu13
    have hb13:Below w11.heap.size w11 w13:=hb12.grown hg13 (by omega) (fun k e=>by cases e;exact Nat.le_refl _)
    have hw13:Grew w10 w13:=below_next hw11 hb13
    refine ⟨hw13,?_⟩
    rw [List.nil_append] at ho13
    obtain ⟨ba,bc,hbv⟩:=ho13.bytes.len
    subst hbv
    refine LateL.cons rfl (wp_build_rb y (.slice ba b.length bc) HHY.out rfl rfl rfl rfl ?_)
    refine ⟨hw13,?_⟩
    refine LateL.cons rfl (RRB.wp_build1 (x:=(y,.slice ba b.length bc)) Tryz.underlying75 (.tmp 51) ⟨HHY.out,rfl⟩ rfl rfl ?_)
    intro w14 ho14 hb14 hs14
    have hw14:Grew w10 w14:=below_next hw13 hb14
    refine ⟨hw14,?_⟩
    refine LateL.nil ?_
    rw [wF_none]
    have hall14:=HALL10.out.of_new hw14
    refine wpListIn_of_wp (ro:=none) rfl (fun c hc=>by cases hc) (hall14.app Tryz.underlying75 (.tmp 43) (.tmp 52) rfl rfl rfl ho14.row (by have:=HCL.out;simp;omega) (by have:=HONE10.out.lt;have:=hw14.size;omega) ?_)
    intro v15 w15 ho15 hg15 hu15
    have hrel15:RPubI w1 g8 k ls v15 (.int .i64 ((i:Int) + 1)) w15:=by
     refine ⟨i + 1,cs ++ [((y,.slice ba b.length bc),b)],.slice a9 (xs ++ [y]).length c9,v15,by rw [HN.out];omega,by go_num,rfl,HST1'.out,?_,(HONE10.out.of_new hw14).grown hg15 (fun e=>by have:=(hall14.lt g8 e.symm).1;omega),?_,by simpa using ho15,fun x hx=>?_,?_⟩
     ·rw [List.map_append,HCS.out,HST3.out];rfl
     ·rw [HST2.out]
      exact ⟨HOWN10.out.1,ownsRow_other (HOWN10.out.of_new hw14).2 hall14.2 (by decide) hg15⟩
     ·have hx14:Own8 w14 (g8 + 1) 5 x.1.2 x.2:=by
       rcases List.mem_append.1 hx with hx | hx
       ·exact Own8.new (HCP10.out x hx) hw14
       ·rw [List.mem_singleton.1 hx]
        have h1:=hw11.size
        have h2:=HONE10.out.lt
        exact ownsRow_mono (Own8.new ho13 hb14) (by omega)
      exact ownsRow_other hx14 hall14.2 (by decide) hg15
     ·exact (below_next HB10.out hw14).grown hg15 (by have:=HB10.out.size;have:=hw14.size;omega) (fun q e=>by have:=(hall14.lt q e).1;have:=HG8.out;omega)
    have HREL:=Lib.hid hrel15
    clear hw11 ho12 hb12 hs12 hw12 ho13 hg13 hu13 hb13 hw13 ho14 hb14 hs14 hw14 hall14 ho15 hg15 hu15 hrel15 hcl10'
    simp only [Act.put]
    rw [wF_none]
    gi_wp2
    go_wp2
    go_roundw
    case rel=>exact HREL.out
    case measure=>simp [intOf];omega
  ·obtain rfl:i = n:=by omega
   have hii:¬ (i:Int) < (i:Int):=by omega
   rw [List.take_of_length_le (by rw [HN.out];exact Nat.le_refl _)] at hok hcs hown
   have hxl:(blobsL k ls).length ≤ 1000:=by unfold blobsL;rw [List.length_map,HN.out];exact hl
   have hcl:cs.length ≤ 1000:=by
    have:=congrArg List.length hcs
    unfold contsL at this
    rw [List.length_map,List.length_map,HN.out] at this
    omega
   obtain ⟨aa,ac,hav⟩:=hall.row.len
   rw [List.length_map] at hav
   subst hav
   obtain ⟨rt,v1,L,T,vi,vb,I,C,hq,rfl⟩:=HO.out
   obtain ⟨ia,ic,hiv⟩:=hq.imgs.row.len
   rw [List.length_map] at hiv
   subst hiv
   have hT:pubL ⟨I.map plI,C.map plR,T⟩ ls k = if encGE (blobsL k ls) = 0 then (if (imgAt ⟨I.map plI,C.map plR,T⟩ (nameL (blobsL k ls))).isSome then (⟨I.map plI,C.map plR,T⟩,nameL (blobsL k ls),0) else if 64 ≤ I.length then (⟨I.map plI,C.map plR,T⟩,dig0,3) else (⟨I.map plI ++ [(nameL (blobsL k ls),blobsL k ls)],(contsL k ls).foldl addC (C.map plR),T⟩,nameL (blobsL k ls),0)) else (⟨I.map plI,C.map plR,T⟩,dig0,encGE (blobsL k ls)):=by
    unfold pubL
    rw [if_pos hok]
    simp only [List.length_map]
   obtain ⟨xs,hxs⟩:∃ xs,blobsL k ls = xs:=⟨_,rfl⟩
   rw [hxs] at hT hown hxl
   obtain ⟨EC,hEC⟩:∃ e,encGE xs = e:=⟨_,rfl⟩
   obtain ⟨nm,hnm⟩:∃ m,nameL xs = m:=⟨_,rfl⟩
   have hn32:nm.length = 32:=by rw [← hnm];exact nameL_len _
   rw [hEC,hnm,← hcs] at hT
   have hNM:=fun W h hK=>RName_any u xs W h hK
   unfold NamePost at hNM
   rw [hEC,hnm] at hNM
   have hB1r:Below w.heap.size w wr:=below_next HB1.out hbr
   have hi8:RImg.O wr g8 u:=one_RImg hone (by obtain ⟨a,c,h⟩:=hown.row.len;rw [h];rfl)
   have HT:=Lib.hid hT
   have HNM:=Lib.hid hNM
   have HN32:=Lib.hid hn32
   have HQ0:=Lib.hid hq
   have HQR:=Lib.hid (hq.of_new hB1r)
   have HI8:=Lib.hid hi8
   have HOWN:=Lib.hid hown
   have HALL:=Lib.hid hall
   have HCP:=Lib.hid hcp
   have HBR:=Lib.hid hbr
   have HB1R:=Lib.hid hB1r
   have HXL:=Lib.hid hxl
   have HCL:=Lib.hid hcl
   have HO6:=Lib.hid (HO1.out.of_new hbr)
   have HKR:=Lib.hid (HKC.out.of_new hB1r)
   have HN0:=Lib.hid (show w.heap.size ≤ g6 by have:=HG6.out;omega)
   have HIF:=Lib.hid (show I.length ≤ 64 by have h2:=HK.out.few;simp only [List.length_map] at h2;omega)
   have HCF:=Lib.hid (show C.length ≤ 1024 by have h1:=HK.out.cfew;have h2:=HK.out.few;simp only [List.length_map] at h1 h2;omega)
   clear hok hcs hone hown hall hcp hbr hq hT hxs hEC hnm hn32 hNM hB1r hi8 hxl hcl
   go_upto_region 12 with (first
    | ((with_reducible refine wpList_plain (o:=⟨some 55,Op.load _ _,_,_,_,_⟩) rfl fun K hK=>?_);(refine HI8.out.at_.wp rfl rfl (hK _ _ ?_)))
    | (go_at_call 18;refine (HNM.out _ HOWN.out.row HKR.out).mono ?_;rintro e w4 ⟨rfl,hb4⟩;have HB4:=Lib.hid hb4;clear hb4)
    | ((with_reducible refine wpList_plain (o:=⟨some 13,Op.alloc _,_,_,_,_⟩) rfl fun K hK=>?_);(refine wp_alloc_dig rfl fun w5 ho5 hb5 hs5=>hK _ _ ?_);have HO5:=Lib.hid ho5;have HB5:=Lib.hid hb5;clear ho5 hb5 hs5)
    | ((with_reducible refine wpList_plain (o:=⟨none,Op.store _ (.tmp 13) (.tmp 57),_,_,_,_⟩) rfl fun K hK=>?_);(refine wp_store_digO (.tmp 13) (.tmp 57) w4.heap.size nm dig0 rfl rfl rfl HN32.out HO5.out fun w6 ho6 hg6 hs6=>hK _ _ ?_);have hb6:=HB5.out.grown hg6 (by have:=HB5.out.size;omega) (fun k e=>by cases e;exact Nat.le_refl _);have HO16:=Lib.hid ho6;have HB6:=Lib.hid (below_next HB4.out hb6);clear ho6 hg6 hs6 hb6))
   obtain ⟨g16,hg16⟩:∃ g,w4.heap.size = g:=⟨_,rfl⟩
   have HG16:=Lib.hid (show g6 < g16 by rw [← hg16];have:=HO6.out.lt;have:=HB4.out.size;omega)
   rw [hg16] at HO16 ⊢
   have HBW:=Lib.hid (below_next HB1R.out HB6.out)
   have HQ6:=Lib.hid (HQR.out.of_new HB6.out)
   have HI86:=Lib.hid (HI8.out.of_new HB6.out)
   have HOWN6:=Lib.hid (HOWN.out.of_new HB6.out)
   have HALL6:=Lib.hid (HALL.out.of_new HB6.out)
   have HCP6:=Lib.hid (fun x hx=>Own8.new (HCP.out x hx) HB6.out)
   have HO66:=Lib.hid (HO6.out.of_new HB6.out)
   clear hg16
   by_cases h0:EC = 0
   case neg=>
    have HT2:=Lib.hid (HT.out.trans (if_neg h0))
    have t1:(EC == 0) = false:=beq_eq_false_iff_ne.2 h0
    have t2:(EC != 0) = true:=bne_iff_ne.2 h0
    clear h0
    go_wp2_with ((with_reducible refine wpList_plain (o:=⟨none,Op.store _ (.tmp 6) (.tmp 61),_,_,_,_⟩) rfl fun K hK=>?_);(refine wp_store_digO (.tmp 6) (.tmp 61) g6 dig0 dig0 rfl rfl rfl rfl HO66.out fun w7 ho7 hg7 hs7=>hK _ _ ?_);have HO7:=Lib.hid ho7;have HG7:=Lib.hid hg7;clear ho7 hg7 hs7)
    refine bodyPost_ret (results_dig_tmp rfl _ rfl rfl HO7.out) rfl ?_
    rw [HT2.out]
    have hbl:Below w.heap.size w w7:=HBW.out.grown HG7.out (by have:=HBW.out.size;omega) (fun k e=>by cases e;exact HN0.out)
    exact ⟨rfl,HO.out.of_new hbl,RKept.of_below hbl⟩
   subst h0
   have HT2:=Lib.hid (HT.out.trans (if_pos rfl))
   clear HT
   have hIM:=ROImage_any r rt many most life B v1 L T _ vb I C nm w6 HQ6.out (by have:=HIF.out;omega) HN32.out
   obtain ⟨O,hO⟩:∃ O,imgAt ⟨I.map plI,C.map plR,T⟩ nm = O:=⟨_,rfl⟩
   rw [hO] at hIM
   have HOE:=Lib.hid hO
   have HIM:=Lib.hid hIM
   have HDG6:=Lib.hid HO16.out.at_
   clear hO hIM
   go_upto_region 15 with (first
    | ((with_reducible refine wpList_plain (o:=⟨some 65,Op.load _ _,_,_,_,_⟩) rfl fun K hK=>?_);(refine wp_load_at (ty:=31) (x:=.tmp 13) rfl rfl HDG6.out (hK _ _ ?_)))
    | (go_at_call 24;refine HIM.out.mono ?_;rintro e w7 ⟨u7,rfl,hr7,hb7⟩;have HU7:=Lib.hid (show RImg.ok u7 by obtain ⟨a,c,h⟩:=hr7.len;rw [h];rfl);have HB7:=Lib.hid hb7;clear hr7 hb7)
    | ((with_reducible refine wpList_plain (o:=⟨some 15,Op.alloc _,_,_,_,_⟩) rfl fun K hK=>?_);(refine RImg.wp_alloc rfl fun w8 ho8 hb8 hs8=>hK _ _ ?_);have HO8:=Lib.hid ho8;have HB8:=Lib.hid hb8;clear ho8 hb8 hs8)
    | ((with_reducible refine wpList_plain (o:=⟨none,Op.store _ (.tmp 15) (.tmp 67),_,_,_,_⟩) rfl fun K hK=>?_);(refine HO8.out.store (.tmp 15) (.tmp 67) rfl rfl rfl HU7.out fun w9 ho9 hg9 hs9=>hK _ _ ?_);have hb9:=HB8.out.grown hg9 (by have:=HB8.out.size;omega) (fun k e=>by cases e;exact Nat.le_refl _);have HB9:=Lib.hid (below_next HB7.out hb9);clear ho9 hg9 hs9 hb9))
   have HBW9:=Lib.hid (below_next HBW.out HB9.out)
   have HQ9:=Lib.hid (HQ6.out.of_new HB9.out)
   have HI89:=Lib.hid (HI86.out.of_new HB9.out)
   have HOWN9:=Lib.hid (HOWN6.out.of_new HB9.out)
   have HALL9:=Lib.hid (HALL6.out.of_new HB9.out)
   have HCP9:=Lib.hid (fun x hx=>Own8.new (HCP6.out x hx) HB9.out)
   have HO69:=Lib.hid (HO66.out.of_new HB9.out)
   have HO169:=Lib.hid (HO16.out.of_new HB9.out)
   cases O with
   | some xs2=>
    have HT3:=Lib.hid (HT2.out.trans (if_pos (by rw [HOE.out];rfl)))
    have HDG9:=Lib.hid HO169.out.at_
    go_wp2_with (first
     | ((with_reducible refine wpList_plain (o:=⟨some 70,Op.load _ _,_,_,_,_⟩) rfl fun K hK=>?_);(refine wp_load_at (ty:=31) (x:=.tmp 13) rfl rfl HDG9.out (hK _ _ ?_)))
     | ((with_reducible refine wpList_plain (o:=⟨none,Op.store _ (.tmp 6) (.tmp 70),_,_,_,_⟩) rfl fun K hK=>?_);(refine wp_store_digO (.tmp 6) (.tmp 70) g6 nm dig0 rfl rfl rfl HN32.out HO69.out fun wA hoA hgA hsA=>hK _ _ ?_);have HOA:=Lib.hid hoA;have HGA:=Lib.hid hgA;clear hoA hgA hsA))
    refine bodyPost_ret (results_dig_tmp rfl _ rfl rfl HOA.out) rfl ?_
    rw [HT3.out]
    have hbl:Below w.heap.size w wA:=HBW9.out.grown HGA.out (by have:=HBW9.out.size;omega) (fun k e=>by cases e;exact HN0.out)
    exact ⟨rfl,HO.out.of_new hbl,RKept.of_below hbl⟩
   | none=>
    have HT3:=Lib.hid (HT2.out.trans (if_neg (by rw [HOE.out];simp)))
    have hc2:=HQ9.out.cell2
    by_cases h64:64 ≤ I.length
    ·have HT4:=Lib.hid (HT3.out.trans (if_pos h64))
     have h64i:(64:Int) ≤ (I.length:Int):=by omega
     clear h64
     go_wp2_with ((with_reducible refine wpList_plain (o:=⟨none,Op.store _ (.tmp 6) (.tmp 77),_,_,_,_⟩) rfl fun K hK=>?_);(refine wp_store_digO (.tmp 6) (.tmp 77) g6 dig0 dig0 rfl rfl rfl rfl HO69.out fun wA hoA hgA hsA=>hK _ _ ?_);have HOA:=Lib.hid hoA;have HGA:=Lib.hid hgA;clear hoA hgA hsA)
     refine bodyPost_ret (results_dig_tmp rfl _ rfl rfl HOA.out) rfl ?_
     rw [HT4.out]
     have hbl:Below w.heap.size w wA:=HBW9.out.grown HGA.out (by have:=HBW9.out.size;omega) (fun k e=>by cases e;exact HN0.out)
     exact ⟨rfl,HO.out.of_new hbl,RKept.of_below hbl⟩
    have HT4:=Lib.hid (HT3.out.trans (if_neg h64))
    have h64i:¬ (64:Int) ≤ (I.length:Int):=by omega
    have H64:=Lib.hid h64
    clear h64
    go_upto_region 19 with (fail)
    clear hc2
    have hc2:=fun w' (h:Grew w9 w')=>Grew.cell h HQ9.out.cell2
    have hdg:DigAt w9 g16 0 nm:=HO169.out.at_
    refine (wpIn_wide (n:=5)).1 ?_
    refine wpIn_region_mixR (ro:=none) (C:=Grew w9) [1,2,3,4,5,6,7] [0] [8] [9,10,11,12] (by kernel_rfl) (by kernel_rfl) (Grew.start _) (fun c a d v w h=>by cases d <;> exact h) ?_
    simp only [opsAt,List.flatMap_cons,List.flatMap_nil,List.getElem?_cons_zero,List.getElem?_cons_succ,Option.toList_some,List.cons_append,List.nil_append]
    go_simp
    repeat (first
     | (go_big_quiet_want;(refine quiet_build_named nm u HN32.out rfl rfl rfl ?_);go_simp;go_big_quiet_on)
     | (go_big_quiet_want;(refine RecT.At.quiet (R:=RImg) (x:=u) (p:=.tmp 8) (fun w' hw'=>(HI89.out.of_new hw').at_) rfl rfl ?_);go_simp;go_big_quiet_on)
     | (go_big_quiet_want;(with_reducible apply quiet_load_at (ty:=31) (x:=.tmp _));rfl;rfl;assumption;go_simp;go_big_quiet_on)
     | (go_big_quiet_want;apply quiet_val;(intro w' hw';go_simp;first | done | rfl);go_simp;go_big_quiet_on)
     | (go_big_quiet_skip))
    refine wpQuiet_nil ?_
    repeat (first
     | (go_big_quiet_want;apply quiet_val;(intro w' hw';go_simp;first | done | rfl);go_simp;go_big_quiet_on)
     | (go_big_quiet_skip))
    refine wpQuiet_nil ?_
    intro wA hwA
    refine LateL.cons rfl (RNamed.wp_build1 (x:=(nm,u)) Tryz.underlying74 (.tmp 85) ⟨HN32.out,HI89.out.2⟩ rfl rfl ?_)
    intro wB hoB hbB hsB
    have hwB:Grew w9 wB:=below_next hwA hbB
    refine ⟨hwB,?_⟩
    refine LateL.nil ?_
    rw [wF_none]
    have hqB:=HQ9.out.of_new hwB
    refine wpListIn_of_wp (ro:=none) rfl (fun c hc=>by cases hc) (hqB.imgs.app Tryz.underlying74 (.tmp 82) (.tmp 86) rfl rfl rfl hoB.row (by have:=HIF.out;simp;omega) (by have:=HBB.out;have:=HBW9.out.size;have:=hwB.size;omega) ?_)
    intro v' wC hoC hgC huC
    obtain ⟨ia2,ic2,hv2⟩:=hoC.row.len
    subst hv2
    have horgC:wC.heap[r]? = some (.cells #[.pointer (some ⟨rt,0,none⟩),.int .i64 life,_,vb] 77 (0,0)):=(hgC.block r hqB.rlt fun e=>by
     obtain ⟨cur2,e3⟩:=ownsRow_block hqB.imgs.2 e.symm
     exact absurd (cells_ty hqB.org e3) (by decide)).trans hqB.org
    have hcC:wC.cell? ⟨r,2,none⟩ = some (.slice ia I.length ic):=by simp only [World.cell?,horgC];rfl
    have hfC:wC.frozen? ⟨r,2,none⟩ = false:=by simp [World.frozen?,horgC]
    have hmap:I.map plN ++ [(nm,u)] = (I ++ [(nm,(u,xs))]).map plN:=by rw [List.map_append];rfl
    rw [hmap] at hoC
    have hput:=hqB.put_imgs hgC hoC (I2:=I ++ [(nm,(u,xs))]) (fun x hx=>by
     rcases List.mem_append.1 hx with hx | hx
     ·exact hqB.irow x hx
     ·rw [List.mem_singleton.1 hx]
      exact RecT.Own.mono (HOWN9.out.of_new hwB) (by have:=HBB.out;have:=HB1.out.size;have:=HG8.out;omega)) rfl
    have hkD:Kept (fun q=>w.heap.size ≤ q) wB (wC.setCell ⟨r,2,none⟩ (.slice ia2 (I.map plN ++ [(nm,u)]).length ic2)):=by
     refine ((Kept.refl _ wB).grown hgC (fun q e h=>?_)).setCell (fun h=>?_) _
     ·have:=(HQ0.out.imgs.lt q e).2;omega
     ·have:=HQ0.out.rlt;have h2:w.heap.size ≤ r:=h;omega
    rw [hmap] at hkD ⊢
    obtain ⟨wD,hWD⟩:∃ wD,wC.setCell ⟨r,2,none⟩ (.slice ia2 ((I ++ [(nm,(u,xs))]).map plN).length ic2) = wD:=⟨_,rfl⟩
    rw [hWD] at hput hkD
    have HWD:=Lib.hid hWD
    have hqD:=hput.1
    have HQD:=Lib.hid hput.1
    have HRD:=Lib.hid ((RKept.of_below (below_next HBW9.out hwB)).trans hput.2)
    have HKD:=Lib.hid hkD
    have HHD:=Lib.hid (show w.heap.size ≤ wB.heap.size from Nat.le_trans HBW9.out.size hwB.size)
    have HSZ:=Lib.hid hwB.size
    have hall:RRB.Own wD (g8 + 1) (.slice aa cs.length ac) (cs.map (·.1)):=(HALL9.out.of_new hwB).kept fun q hq=>hkD.block q ((HALL9.out.of_new hwB).lt q hq).2 (by have:=((HALL9.out.of_new hwB).lt q hq).1;have:=HG8.out;have:=HB1.out.size;omega)
    have hcp:∀ x ∈ cs,Own8 wD (g8 + 1) 5 x.1.2 x.2:=fun x hx=>ownsRow_same (Own8.new (HCP9.out x hx) hwB) fun q hq=>hkD.block q (World.ownsRow.lt (Own8.new (HCP9.out x hx) hwB) q hq).2 (by have:=(World.ownsRow.lt (Own8.new (HCP9.out x hx) hwB) q hq).1;have:=HG8.out;have:=HB1.out.size;omega)
    have HALLD:=Lib.hid hall
    have HCPD:=Lib.hid hcp
    have HO6D:=Lib.hid ((HO69.out.of_new hwB).of_block (hkD.block g6 (HO69.out.of_new hwB).lt HN0.out))
    have HO16D:=Lib.hid ((HO169.out.of_new hwB).of_block (hkD.block g16 (HO169.out.of_new hwB).lt (by have:=HG16.out;have:=HN0.out;omega)))
    have HVB:=Lib.hid (fun q (hq:vb.ownBlock = some q)=>(HQ0.out.blbs.lt q hq).2)
    clear hc2 hdg hwA hoB hbB hsB hwB hqB hoC hgC huC horgC hmap hput hkD hqD hall hcp hWD
    simp only [Act.put]
    rw [wF_none]
    gi_wp2
    generalize hW2:wC.setCell _ _ = wD2
    obtain rfl:wD = wD2:=by
     rw [← hW2,← HWD.out]
     simp
    clear hcC hfC hW2 HWD
    obtain ⟨VI,hVI⟩:∃ VI,Value.slice ia2 ((I ++ [(nm,(u,xs))]).map plN).length ic2 = VI:=⟨_,rfl⟩
    rw [hVI] at HQD
    clear hVI
    have hcln:cs.length ≤ 1000:=HCL.out
    go_wp2
    go_loopw [17] (fun iv W'=>RPubJ w wD g8 r rt many most life B v1 L T VI (I ++ [(nm,(u,xs))]) C cs iv W') (fun iv _=>cs.length - (intOf iv).toNat)
    case atStart=>exact ⟨0,C,vb,Nat.zero_le _,rfl,HQD.out,rfl,(fun k hk=>.inl (HVB.out k hk)),Kept.refl _ _,RKept.refl _ _⟩
    case round=>
     rename World=>wE
     obtain ⟨j,Cj,vbj,hj,rfl,hqj,hcj,hvb,hkj,hrk⟩:=hrel
     have hallE:RRB.Own wE (g8 + 1) (.slice aa cs.length ac) (cs.map (·.1)):=HALLD.out.kept fun q hq=>hkj.block q (HALLD.out.lt q hq).2 (by have:=(HALLD.out.lt q hq).1;have:=HG8.out;have:=HB1.out.size;omega)
     have hcpE:∀ x ∈ cs,Own8 wE (g8 + 1) 5 x.1.2 x.2:=fun x hx=>ownsRow_same (HCPD.out x hx) fun q hq=>hkj.block q (World.ownsRow.lt (HCPD.out x hx) q hq).2 (by have:=(World.ownsRow.lt (HCPD.out x hx) q hq).1;have:=HG8.out;have:=HB1.out.size;omega)
     have HO6E:=Lib.hid (HO6D.out.of_block (hkj.block g6 HO6D.out.lt HN0.out))
     have HO16E:=Lib.hid (HO16D.out.of_block (hkj.block g16 HO16D.out.lt (by have:=HG16.out;have:=HN0.out;omega)))
     have hCjl:Cj.length ≤ 3000:=by
      have h1:=congrArg List.length hcj
      have h2:=addCs_len ((cs.take j).map plR) (C.map plR)
      simp only [List.length_map,List.length_take] at h1 h2
      have:=HCF.out
      omega
     have HQE:=Lib.hid hqj
     have HCJ:=Lib.hid hcj
     have HVJ:=Lib.hid hvb
     have HKJ:=Lib.hid hkj
     have HRK:=Lib.hid hrk
     have HALLE:=Lib.hid hallE
     have HCPE:=Lib.hid hcpE
     have HCJL:=Lib.hid hCjl
     clear hqj hcj hvb hkj hrk hallE hcpE hCjl
     by_cases hjl:j < cs.length
     ·have hjj:(j:Int) < (cs.length:Int):=by omega
      obtain ⟨b0,off,c0,hv,hbl,hat⟩:=HALLE.out.row.at_ (by rw [List.length_map];omega)
      rw [List.length_map] at hv
      obtain ⟨rfl,rfl⟩:aa = some ⟨b0,off,none⟩∧ac = c0:=by cases hv;exact ⟨rfl,rfl⟩
      obtain ⟨x,hx⟩:∃ x,cs[j]? = some x:=⟨_,List.getElem?_eq_getElem hjl⟩
      have hax:=hat j x.1 (by rw [List.getElem?_map,hx];rfl)
      have HAX:=Lib.hid hax
      have HX:=Lib.hid hx
      have HXO:=Lib.hid hax.1
      have HXP:=Lib.hid (HCPE.out x (List.mem_of_getElem? hx))
      have HDX:=Lib.hid (RRB_dig hax)
      have HX32:=Lib.hid (show x.1.1.dig.length = 32 from hax.1.1.1)
      clear hv hbl hat hx hax
      go_upto_if 104 with (first
       | ((with_reducible refine wpList_plain (o:=⟨some 102,Op.load _ _,_,_,_,_⟩) rfl fun K hK=>?_);(refine wp_load_at (ty:=31) (x:=.tmp 101) rfl rfl HDX.out (hK _ _ ?_)))
       | (go_at_call 63;refine (RBlobAt_any r rt many most life B v1 L T VI vbj (I ++ [(nm,(u,xs))]) Cj x.1.1.dig _ HQE.out (by have:=HCJL.out;omega) HX32.out).mono ?_;rintro e wF ⟨iF,rfl,hiF,hbF⟩;have HIF2:=Lib.hid hiF;have HBF:=Lib.hid hbF;clear hiF hbF))
      have HQF:=Lib.hid (HQE.out.of_new HBF.out)
      have hstep:(cs.take (j + 1)).map plR = (cs.take j).map plR ++ [plR x]:=by
       rw [List.take_add_one,HX.out];simp
      have hfold:((cs.take (j + 1)).map plR).foldl addC (C.map plR) = addC (Cj.map plR) (plR x):=by
       rw [hstep,List.foldl_append,HCJ.out];rfl
      have HFOLD:=Lib.hid hfold
      have HKF:=Lib.hid (Kept.below HKJ.out HBF.out)
      have HRF:=Lib.hid (HRK.out.new HBF.out)
      clear hstep hfold
      rcases HIF2.out with ⟨rfl,hno⟩ | ⟨j2,x2,rfl,hx2,hs2⟩
      ·have hnew:addC (Cj.map plR) (plR x) = (Cj ++ [x]).map plR:=by
        unfold addC
        rw [show (plR x).1.dig = x.1.1.dig from rfl,hno]
        simp
       have HSM:=Lib.hid (hnew.symm.trans HFOLD.out.symm)
       clear hnew hno
       go_upto_region 24 with (fail)
       have hc3:=fun w' (h:Grew wF w')=>Grew.cell h HQF.out.cell3
       refine (wpIn_wide (n:=5)).1 ?_
       refine wpIn_region_mixR (ro:=none) (C:=Grew wF) [1,2,3,4,5,6,7,8] [0] [9] [10,11,12,13] (by kernel_rfl) (by kernel_rfl) (Grew.start _) (fun c a d v w h=>by cases d <;> exact h) ?_
       simp only [opsAt,List.flatMap_cons,List.flatMap_nil,List.getElem?_cons_zero,List.getElem?_cons_succ,Option.toList_some,List.cons_append,List.nil_append]
       go_simp
       repeat (first
        | (go_big_quiet_want;(refine RecT.At.quiet (R:=RRB) (x:=x.1) (p:=.tmp 112) (fun w' hw'=>(HAX.out.of_new HBF.out).of_new hw') rfl rfl ?_);go_simp;go_big_quiet_on)
        | (go_big_quiet_want;(with_reducible apply quiet_load_at (ty:=31) (x:=.tmp _));rfl;rfl;assumption;go_simp;go_big_quiet_on)
        | (go_big_quiet_want;apply quiet_val;(intro w' hw';go_simp;first | done | rfl);go_simp;go_big_quiet_on)
        | (go_big_quiet_skip))
       refine wpQuiet_nil ?_
       repeat (first
        | (go_big_quiet_want;apply quiet_val;(intro w' hw';go_simp;first | done | rfl);go_simp;go_big_quiet_on)
        | (go_big_quiet_skip))
       refine wpQuiet_nil ?_
       intro wG hwG
       refine LateL.cons rfl (RRB.wp_build1 (x:=x.1) Tryz.underlying75 (.tmp 113) HXO.out rfl rfl ?_)
       intro wH hoH hbH hsH
       have hwH:Grew wF wH:=below_next hwG hbH
       refine ⟨hwH,?_⟩
       refine LateL.nil ?_
       rw [wF_none]
       have hqH:=HQF.out.of_new hwH
       have hszH:w.heap.size ≤ wH.heap.size:=by have h1:=HHD.out;have h2:=HKD.out.size;have h3:=HKF.out.size;have h4:=hwH.size;omega
       refine wpListIn_of_wp (ro:=none) rfl (fun c hc=>by cases hc) (hqH.blbs.app Tryz.underlying75 (.tmp 109) (.tmp 114) rfl rfl rfl hoH.row (by have:=HCJL.out;simp;omega) (by have:=HBB.out;omega) ?_)
       intro v' wI hoI hgI huI
       obtain ⟨ia3,ic3,hv3⟩:=hoI.row.len
       obtain ⟨nl,hnl⟩:∃ nl,(Cj.map (·.1) ++ [x.1]).length = nl:=⟨_,rfl⟩
       rw [hnl] at hv3
       subst hv3
       clear hnl
       have horgI:wI.heap[r]? = some (.cells #[.pointer (some ⟨rt,0,none⟩),.int .i64 life,VI,vbj] 77 (0,0)):=(hgI.block r hqH.rlt fun e=>by
        obtain ⟨cur2,e3⟩:=ownsRow_block hqH.blbs.2 e.symm
        exact absurd (cells_ty hqH.org e3) (by decide)).trans hqH.org
       have hcI:wI.cell? ⟨r,3,none⟩ = some vbj:=by simp only [World.cell?,horgI];rfl
       have hfI:wI.frozen? ⟨r,3,none⟩ = false:=by simp [World.frozen?,horgI]
       have hmap:Cj.map (·.1) ++ [x.1] = (Cj ++ [x]).map (·.1):=by rw [List.map_append];rfl
       rw [hmap] at hoI
       have hput:=hqH.put_blbs hgI hoI (C2:=Cj ++ [x]) (fun y hy=>by
        rcases List.mem_append.1 hy with hy | hy
        ·exact hqH.brow y hy
        ·rw [List.mem_singleton.1 hy]
         exact ownsRow_mono (Own8.new (Own8.new HXP.out HBF.out) hwH) (by have:=HBB.out;have:=HB1.out.size;have:=HG8.out;omega)) rfl
       have hkI:Kept (fun q=>w.heap.size ≤ q) wD (wI.setCell ⟨r,3,none⟩ (.slice ia3 nl ic3)):=by
        have h0:Kept (fun q=>w.heap.size ≤ q) wD wH:=Kept.below HKF.out hwH
        have h1:Kept (fun q=>w.heap.size ≤ q∧q < wD.heap.size) wD wH:=h0.mono fun q hq hu=>hu.1
        have h2:=(h1.grown hgI (fun q e h=>by
         rcases HVJ.out q e with h3 | h3
         ·omega
         ·omega)).setCell (p:=⟨r,3,none⟩) (fun h=>by have:=HQ0.out.rlt;have h2:w.heap.size ≤ r:=h.1;omega) (.slice ia3 nl ic3)
        exact h2.mono fun q hq hu=>⟨hu,hq⟩
       have HRI:=Lib.hid ((HRF.out.new hwH).trans hput.2)
       have HUI:=Lib.hid (fun q (hq:(Value.slice ia3 nl ic3).ownBlock = some q)=>(huI q hq).elim (HVJ.out q) (fun h=>Or.inr (show wD.heap.size ≤ q by have h1:=HKF.out.size;have h2:=hwH.size;omega)))
       obtain ⟨wJ,hWJ⟩:∃ wJ,wI.setCell ⟨r,3,none⟩ (.slice ia3 nl ic3) = wJ:=⟨_,rfl⟩
       rw [hWJ] at hput hkI HRI
       have HWJ:=Lib.hid hWJ
       have HQJ:=Lib.hid hput.1
       have HKI:=Lib.hid hkI
       clear hc3 hwG hoH hbH hsH hwH hqH hszH hoI hgI huI horgI hmap hput hkI hWJ
       simp only [Act.put]
       rw [wF_none]
       gi_wp2
       rw [HWJ.out]
       clear hcI hfI HWJ
       go_wp2
       go_roundw
       case rel=>exact ⟨j + 1,_,.slice ia3 nl ic3,by omega,by go_num,HQJ.out,HSM.out,HUI.out,HKI.out,HRI.out⟩
       case measure=>simp [intOf];omega
      ·have hsame:addC (Cj.map plR) (plR x) = Cj.map plR:=by
        unfold addC
        rw [show (plR x).1.dig = x.1.1.dig from rfl,hs2];rfl
       have HSM:=Lib.hid (hsame.symm.trans HFOLD.out.symm)
       have hj2:¬ (j2:Int) < 0:=by omega
       clear hsame hx2 hs2
       go_wp2
       go_roundw
       case rel=>exact ⟨j + 1,Cj,vbj,by omega,by go_num,HQF.out,HSM.out,HVJ.out,HKF.out,HRF.out⟩
       case measure=>simp [intOf];omega
     ·obtain rfl:j = cs.length:=by omega
      have hjj:¬ (cs.length:Int) < (cs.length:Int):=by omega
      have HDG:=Lib.hid HO16E.out.at_
      go_wp2_with (first
       | ((with_reducible refine wpList_plain (o:=⟨some 118,Op.load _ _,_,_,_,_⟩) rfl fun K hK=>?_);(refine wp_load_at (ty:=31) (x:=.tmp 13) rfl rfl HDG.out (hK _ _ ?_)))
       | ((with_reducible refine wpList_plain (o:=⟨none,Op.store _ (.tmp 6) (.tmp 118),_,_,_,_⟩) rfl fun K hK=>?_);(refine wp_store_digO (.tmp 6) (.tmp 118) g6 nm dig0 rfl rfl rfl HN32.out HO6E.out fun wA hoA hgA hsA=>hK _ _ ?_);have HOA:=Lib.hid hoA;have HGA:=Lib.hid hgA;clear hoA hgA hsA))
      refine bodyPost_ret (results_dig_tmp rfl _ rfl rfl HOA.out) rfl ?_
      rw [HT4.out]
      refine ⟨rfl,⟨rt,v1,L,T,VI,vbj,_,_,HQE.out.kept_dig HO6E.out HGA.out,?_⟩,Kept.fresh (HRD.out.trans HRK.out) HGA.out HN0.out⟩
      rw [HCJ.out,List.take_length,List.map_append];rfl
end Go.Proofs.YtnohglkilpnjhaaGreatDoor
