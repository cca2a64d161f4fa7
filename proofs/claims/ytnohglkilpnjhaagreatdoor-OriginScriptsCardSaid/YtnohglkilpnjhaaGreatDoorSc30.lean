/- Lemmas that the statement of this claim leans on; their own comments are taken out, for the size of the claim. No condition beyond what each lemma states. -/
import Derived.Test.YtnohglkilpnjhaaGreatDoorSc29
set_option linter.unusedVariables false
set_option linter.unusedSimpArgs false
set_option linter.unusedSectionVars false
namespace Go.Proofs.YtnohglkilpnjhaaGreatDoor
open Go.RowKit
set_option maxRecDepth 100000
theorem wp_build8 {w:World} {o:Oper} {a:Act} {K:Act→World→Prop} {Q:Exit→Act→World→Prop} (ho:o.op = .buildSlice 33 0 #[])
  (hK:∀ w',Own8 w' w.heap.size 5 (.slice (some ⟨w.heap.size,0,none⟩) 0 0) []→Below w.heap.size w w'→w'.heap.size = w.heap.size + 1→K (a.put o.dst (.slice (some ⟨w.heap.size,0,none⟩) 0 0)) w'):o.wp Tryz.prog a w K Q:=by
 obtain ⟨i,hi,hz,hsize,hby⟩:=info_parts infoU8
 have hrun:(Instr.buildSlice 33 0 #[]).run Tryz.prog w = .ok (.slice (some ⟨w.heap.size,0,none⟩) 0 0) (w.alloc (.cells #[] 5)):=by
  have h0:Array.range 0 = #[]:=by first | decide | simp | rfl
  simp [h0,Instr.buildSlice,run_underlying Tryz.underlying33,sizeOf,typeInfo,hi,hsize,Instr.fill,newRow,Sem.run_bind,Sem.run_pure,Result.andThen]
 unfold Oper.wp execOp
 simp only [ho,List.map_toArray,List.map_nil,Sem.run_bind,hrun,Result.andThen_ok,Sem.run_pure]
 exact hK _ (World.ownsRow_made w #[] 0 (Nat.le_refl _) (by unfold maxLen;omega) rfl) ((Below.refl _ w).alloc (Nat.le_refl _) _) (by simp)
theorem infoU8r:∃ i,Tryz.prog.info? 5 = some i∧i.size = 1:=by
 obtain ⟨i,hi,hz0,hz1,hz2⟩:=info_parts infoU8
 exact ⟨i,hi,hz1⟩
def giveR (x:BlobL) (b:List UInt8) (i:Int):MsgL × Bool:=if (spanZ x.size x.piece i).2.2 = 0 then (giveM x.dig x b i,true) else (msgN,false)
def GivePost (w:World) (r:MsgL × Bool) (e:Ending) (w':World):Prop:=∃ s,e = .returned (.tuple #[MsgV r.1 s,.bool r.2])∧MsgR w' r.1 s∧Hi w.heap.size s∧Below w.heap.size w w'
theorem results_msg2 {fn:Func} {p q:Tmp} (h:fn.results = #[.cell p 37,.tmp q]) (tmps:Array Value) {w:World} {b:Nat} {m:MsgL} {s:MsgS} {u:Value} (hp:tmps.getD p undef = .pointer (some ⟨b,0,none⟩)) (hq:tmps.getD q undef = u)
  (hx:MsgO w b m s):(results fn tmps).run Tryz.prog w = .ok (.tuple #[MsgV m s,u]) w:=results_msg h tmps hp hq hx
set_option maxHeartbeats 3200000 in
theorem RGive_any (x:BlobL) (v:Value) (b:List UInt8) (i:Int) (w:World) (hc:contOk (x,b)) (hl:Bytes w v b) (i1:-9223372036854775808 ≤ i) (i2:i ≤ 9223372036854775807) :
  Calls Tryz.prog 98 #[BlobV x,v,.int .i64 i] w (GivePost w (giveR x b i)):=by
 obtain ⟨ba,bc,hbv⟩:=hl.len
 subst hbv
 have hxo:x.ok:=hc.ok
 obtain ⟨W,hW⟩:∃ W,w.alloc (.cells x.cells.toArray 81) = W:=⟨_,rfl⟩
 have ho:BlobO W w.heap.size x:=by rw [← hW];exact blob_alloc w hxo
 have hb:Below w.heap.size w W:=by rw [← hW];exact (Below.refl _ w).alloc (Nat.le_refl _) _
 have HW:=Lib.hid hW
 have HO:=Lib.hid ho
 have HB:=Lib.hid hb
 have HL:=Lib.hid (hl.of_new hb)
 have HC:=Lib.hid hc
 have HXO:=Lib.hid hxo
 have H32:=Lib.hid hxo.1
 clear hc hl hxo hW ho hb
 show Calls Tryz.prog 98 #[.agg x.cells.toArray,.slice ba b.length bc,.int .i64 i] w _
 go_enter Tryz.func98,Tryz.ntmps98
 go_upto_region 1 with ((with_reducible refine wpList_plain (o:=⟨some 6,Op.alloc _,_,_,_,_⟩) rfl fun K hK=>?_);(refine wp_alloc_msg rfl fun w1 ho1 hb1 hs1=>hK _ _ ?_);rw [HW.out] at ho1 hb1 hs1 ⊢;have HO1:=Lib.hid ho1.o;have HB1:=Lib.hid hb1;clear ho1 hb1 hs1)
 obtain ⟨g3,hg3⟩:∃ g,w.heap.size = g:=⟨_,rfl⟩
 have HG3:=Lib.hid hg3
 rw [hg3] at HO ⊢
 obtain ⟨g6,hg6⟩:∃ g,W.heap.size = g:=⟨_,rfl⟩
 have HG6:=Lib.hid hg6
 rw [hg6] at HO1 ⊢
 clear hg3 hg6
 have HX1:=Lib.hid (HO.out.of_new HB1.out)
 obtain ⟨sp,hsp⟩:∃ sp,spanZ x.size x.piece i = sp:=⟨_,rfl⟩
 obtain ⟨A,N,c⟩:=sp
 have HS:=Lib.hid hsp
 go_upto_region 2 with (first
  | ((with_reducible refine wpList_plain (o:=⟨some 16,Op.load _ _,_,_,_,_⟩) rfl fun K hK=>?_);(refine wp_load_blob rfl rfl HX1.out (hK _ _ ?_)))
  | (go_at_call 147;refine (RSpan_any x i _ HXO.out i1 i2).mono ?_;rw [HS.out];rintro e w5 ⟨rfl,hb5⟩;have HB5:=Lib.hid (below_next HB1.out hb5);have HM5:=Lib.hid (HO1.out.of_new hb5);have HX5:=Lib.hid (HX1.out.of_new hb5);clear hb5))
 clear hsp
 have HL5:=Lib.hid (HL.out.of_new HB5.out)
 by_cases hc0:c = 0
 ·subst hc0
  obtain ⟨lo,len,hA,hN,hlen,hn1,hn2,hbl,hi0,hi3⟩:=give_bounds HC.out (i:=i) (by show (spanZ x.size x.piece i).2.2 = 0;rw [HS.out])
  replace hA:(spanZ x.size x.piece i).1 = (lo:Int):=hA
  replace hN:(spanZ x.size x.piece i).2.1 = (len:Int):=hN
  rw [HS.out] at hA hN
  subst hA
  subst hN
  have HT:=Lib.hid (show giveR x b i = ({ mk0 4 x.dig with piece:=i,bytes:=(b.drop lo).take len,proof:=(proofE (leavesL b x.piece.toNat) i).1 },true) by
   unfold giveR
   rw [if_pos (by rw [HS.out])]
   unfold giveM
   dsimp only
   rw [HS.out]
   simp)
  have HLEN:=Lib.hid hlen
  have hle:leavesE b x.piece = (leavesL b x.piece.toNat,0):=by unfold leavesE;rw [if_pos HC.out.1]
  have HLE:=Lib.hid hle
  obtain ⟨pf,hpf⟩:∃ pf,proofE (leavesL b x.piece.toNat) i = pf:=⟨_,rfl⟩
  rw [hpf] at HT
  obtain ⟨pr,pe⟩:=pf
  have HPF:=Lib.hid hpf
  have HBD:=Lib.hid (show 1 ≤ len∧len ≤ 16384∧b.length ≤ 1048576 from ⟨hn1,hn2,hbl⟩)
  have hlo:(lo:Int) ≤ 1048576∧(len:Int) ≤ 1048576:=by replace hlen:lo + len ≤ b.length:=hlen;replace hbl:b.length ≤ 1048576:=hbl;omega
  have HLO:=Lib.hid hlo
  have hpc:=HX5.out.piece
  clear hpf hlen hn1 hn2 hbl hi0 hi3 hlo hle
  go_upto_region 6 with (first
   | (go_at_call 145;refine (RLeaves_any _ b x.piece _ HL5.out).mono ?_;unfold LeavesPost;rw [HLE.out];rintro e w6 ⟨v6,rfl,ho6,hb6⟩;obtain ⟨la,lc,hlv⟩:=ho6.digs.len;subst hlv;have HLV:=Lib.hid ho6.digs;have HB6:=Lib.hid (below_next HB5.out hb6);have HM6:=Lib.hid (HM5.out.of_new hb6);have HX6:=Lib.hid (HX5.out.of_new hb6);have HL6:=Lib.hid (HL5.out.of_new hb6);clear ho6 hb6)
   | (go_at_call 148;refine (RProof_any _ _ i _ HLV.out i1 i2).mono ?_;unfold ProofPost;rw [HPF.out];rintro e w7 ⟨v7,rfl,ho7,hb7⟩;obtain ⟨pa,pc,hvp⟩:=ho7.digs.len;subst hvp;have HPR:=Lib.hid ho7;have HB7:=Lib.hid (below_next HB6.out hb7);have HM7:=Lib.hid (HM6.out.of_new hb7);have HX7:=Lib.hid (HX6.out.of_new hb7);have HL7:=Lib.hid (HL6.out.of_new hb7);clear ho7 hb7))
  obtain ⟨iu,hiu,hsu⟩:=infoU8r
  obtain ⟨pv,hpv,hpb, -⟩:=Bytes.part (P:=Tryz.prog) (t:=33) (e:=5) HL7.out Tryz.underlying33 hiu hsu (some (.int .i64 (lo:Int))) (some (.int .i64 ((lo + len:Nat):Int))) lo (lo + len) (by omega) HLEN.out (.inr ⟨_,rfl⟩) (.inr ⟨_,rfl⟩)
  rw [show lo + len - lo = len by omega] at hpb
  obtain ⟨va,vc,hve⟩:=hpb.len
  subst hve
  have hwr:IntKind.i64.wrap ((lo:Int) + (len:Int)) = ((lo + len:Nat):Int):=by
   have:=HLO.out
   rw [IntWalk.i64_in _ (by omega)];omega
  rw [show ((lo + len:Nat):Int) = (lo:Int) + (len:Int) by omega] at hpv hwr
  have hdg:DigAt w7 g3 0 x.dig:=HX7.out.dig
  obtain ⟨bs,hbs⟩:∃ bs,(b.drop lo).take len = bs:=⟨_,rfl⟩
  rw [hbs] at hpb HT hpv
  have HPB:=Lib.hid hpb
  have HBL:=Lib.hid (show bs.length ≤ 16384 by rw [← hbs,List.length_take];have:=HBD.out;omega)
  clear hiu hsu hpb hbs hpc
  refine (wpIn_wide (n:=5)).1 ?_
  refine wpIn_region_mix (ro:=none) (C:=Grew w7) [0,1,2,4,5,6,7,8,9,11] [3,10] [12,13,14] (by kernel_rfl) (by kernel_rfl) (Grew.start _) (fun c a d v w h=>by cases d <;> exact h) ?_
  simp only [opsAt,List.flatMap_cons,List.flatMap_nil,List.getElem?_cons_zero,List.getElem?_cons_succ,Option.toList_some,List.cons_append,List.nil_append]
  go_simp
  repeat (first
   | (go_big_quiet_want;(with_reducible apply quiet_load_at (ty:=31) (x:=.tmp _));rfl;rfl;assumption;go_simp;go_big_quiet_on)
   | (go_big_quiet_want;apply quiet_val;(intro w' hw';go_simp;first | done | rfl);go_simp;go_big_quiet_on)
   | (go_big_quiet_skip))
  refine wpQuiet_nil ?_
  intro w8 hw8
  refine LateL.cons rfl (wp_build8 rfl ?_)
  intro w9 ho9 hb9 hs9
  have hw9:Grew w7 w9:=below_next hw8 hb9
  refine ⟨hw9,?_⟩
  obtain ⟨iv,hiv,hz0,hz1,hz2⟩:=info_parts infoU8
  refine LateL.cons rfl (wp_app8 (.tmp 41) (.tmp 47) 33 rfl w8.heap.size 5 iv Tryz.underlying33 hiv hz0 hz1 hz2 _ [] rfl ho9 _ bs rfl (HPB.out.of_new hw9) (by have:=HBL.out;simp;omega) (by omega) ?_)
  intro v10 w10 ho10 hg10 hu10
  have hb10:Below w8.heap.size w8 w10:=hb9.grown hg10 (by omega) (fun k e=>by cases e;exact Nat.le_refl _)
  have hw10:Grew w7 w10:=below_next hw8 hb10
  refine ⟨hw10,?_⟩
  refine LateL.nil ?_
  rw [wF_none]
  rw [List.nil_append] at ho10
  obtain ⟨a8,c8,hv8⟩:=ho10.bytes.len
  subst hv8
  have HO8:=Lib.hid ho10
  have HM8:=Lib.hid (HM7.out.of_new hw10)
  have HPR8:=Lib.hid (HPR.out.of_new hw10)
  have HB8:=Lib.hid (below_next HB7.out hw10)
  have HW76:=Lib.hid hw8.size
  have HZ6:=Lib.hid HM6.out.lt
  have HZ7:=Lib.hid HM7.out.lt
  clear hw8 ho9 hb9 hs9 hw9 ho10 hg10 hu10 hb10 hw10 hdg hwr hpv
  refine wpListIn_of_wp (ro:=none) rfl (fun c hc=>by cases hc) (wp_build_mG 4 x.dig i (.slice a8 bs.length c8) (.slice pa pr.length pc) bs pr H32.out rfl rfl rfl rfl rfl rfl rfl rfl ?_)
  refine wpListIn_of_wp (ro:=none) rfl (fun c hc=>by cases hc) (wp_store_msg (.tmp 6) (.tmp 50) g6 _ msgZ _ sN rfl rfl rfl (msgR_G 4 i H32.out HO8.out.bytes HPR8.out.digs) HM8.out ?_)
  intro wE hoE hgE hsE
  have HOE:=Lib.hid hoE
  have HGE:=Lib.hid hgE
  clear hoE hgE hsE
  simp only [Act.put]
  rw [wF_none]
  gi_wp2
  go_wp2
  refine bodyPost_ret (results_msg2 rfl _ rfl rfl HOE.out) rfl ?_
  rw [HT.out]
  have hz3:=HB.out.size
  have hz4:=HG6.out
  have hz5:=HB8.out.size
  have hz6:=HB7.out.size
  have hz7:=HB6.out.size
  have hz8:=HW76.out
  have hz9:=HZ6.out
  have hzA:=HZ7.out
  refine ⟨_,rfl,msgR_G 4 i H32.out (Row.of_kept HO8.out.bytes HGE.out (fun k hk e=>?_)) ⟨HPR8.out.digs.1,Row.of_kept HPR8.out.digs.2 HGE.out (fun k hk e=>?_)⟩,hi_G (fun k hk=>by have:=(World.ownsRow.lt HO8.out k hk).1;omega) (fun k hk=>by have:=(World.ownsRow.lt HPR8.out.2 k hk).1;omega),(below_next HB.out HB8.out).grown HGE.out (by omega) (fun k e=>by cases e;omega)⟩
  ·have:=(World.ownsRow.lt HO8.out k hk).1
   cases e
   omega
  ·have:=(World.ownsRow.lt HPR8.out.2 k hk).1
   cases e
   omega
 ·have HT:=Lib.hid (show giveR x b i = (msgN,false) by unfold giveR;rw [if_neg (by rw [HS.out];exact hc0)])
  have t1:(c == 0) = false:=beq_eq_false_iff_ne.2 hc0
  have t2:(c != 0) = true:=bne_iff_ne.2 hc0
  clear hc0
  go_wp2_with (first
   | ((with_reducible refine wpList_plain (o:=⟨some 24,Op.build _ _,_,_,_,_⟩) rfl fun K hK=>?_);(refine wp_val (v:=MsgV msgZ sN) (by unfold execOp;simp only [List.map_toArray,List.map_nil,build_msg,Sem.run_bind,Result.andThen_ok,Sem.run_pure]) (hK _ _ ?_)))
   | ((with_reducible refine wpList_plain (o:=⟨none,Op.store _ (.tmp 6) (.tmp 24),_,_,_,_⟩) rfl fun K hK=>?_);(refine wp_store_msg (.tmp 6) (.tmp 24) g6 msgZ msgZ sN sN rfl rfl rfl (msgR_zero _) HM5.out fun w6 ho6 hg6 hs6=>hK _ _ ?_);have HO6:=Lib.hid ho6;have HGG:=Lib.hid hg6;clear ho6 hg6 hs6))
  refine bodyPost_ret (results_msg2 rfl _ rfl rfl HO6.out) rfl ?_
  rw [HT.out]
  exact ⟨sN,rfl,msgR_zero _,hi_sN _,(below_next HB.out HB5.out).grown HGG.out (by have:=HB.out.size;have:=HB5.out.size;omega) (fun k e=>by cases e;have:=HG6.out;have:=HB.out.size;omega)⟩
theorem build_rsrc (s:Nat) (W:World):(Instr.build 234 #[(0,.int .u64 (s:Int))]).run Tryz.prog W = .ok (.agg #[.int .u64 (s:Int)]) W:=by kernel_rfl
set_option maxHeartbeats 3200000 in
theorem RAskO_any (r:Nat) (many most:Int) (B:Nat) (v:Value) (L:RefL) (T:TabL) (d:List UInt8) (id cnt:Int) (seed:Nat) (w:World) (hR:RTabP w r many most B v L T) (hT:TabOk many most T) (hm:1 ≤ many∧many ≤ 1000) (he:1 ≤ most∧most ≤ 64) (h32:d.length = 32) (hseed:seed < 18446744073709551616) :
  Calls Tryz.prog 100 #[.pointer (some ⟨r,0,none⟩),.agg (d.map B8).toArray,.int .i64 id,.int .i64 cnt,.int .u64 (seed:Int)] w fun e w'=>∃ u,e = .returned u∧Ints w' u (sampleL seed (othersL (peersT d T) id) cnt)∧Below w.heap.size w w'∧∀ q,u.ownBlock = some q→w.heap.size ≤ q:=by
 obtain ⟨W,hW⟩:∃ W,w.alloc (.cells (d.map B8).toArray 31) = W:=⟨_,rfl⟩
 have ho:DigO W w.heap.size d:=by rw [← hW];exact digO_new w h32
 have hb:Below w.heap.size w W:=by rw [← hW];exact (Below.refl _ w).alloc (Nat.le_refl _) _
 have hP:=RPeers_any r many most B v L T d W (hR.of_new hb) hT hm h32
 obtain ⟨hps,hpl⟩:=peersT_ok hT he.1 d
 obtain ⟨ps,hps2⟩:∃ ps,peersT d T = ps:=⟨_,rfl⟩
 rw [hps2] at hP hps hpl ⊢
 have hl64:ps.length ≤ 64:=by omega
 have hdg:DigAt W w.heap.size 0 d:=ho.at_
 have HDG:=Lib.hid hdg
 have HW:=Lib.hid hW
 have HB:=Lib.hid hb
 have HP:=Lib.hid hP
 have hbs:=build_rsrc seed
 clear hR hT hW hb hP hps hps2 ho hpl hdg
 go_enter Tryz.func100,Tryz.ntmps100
 go_upto_region 1 with (fail)
 rw [HW.out]
 go_wp2_with (first
  | ((with_reducible refine wpList_plain (o:=⟨some 16,Op.load _ _,_,_,_,_⟩) rfl fun K hK=>?_);(refine wp_load_at (ty:=31) (x:=.tmp 6) rfl rfl HDG.out (hK _ _ ?_)))
  | (go_at_call 29;refine HP.out.mono ?_;rintro e w1 ⟨v1,rfl,ho1,hb1⟩;obtain ⟨a1,c1,hv⟩:=ho1.len;subst hv;have HO1:=Lib.hid ho1;have HB1:=Lib.hid (below_next HB.out hb1);have HS1:=Lib.hid hb1.size;clear ho1 hb1))
 go_loopw [12,13] (fun lv iv W'=>AskI w1 ps id lv iv W') (fun _ iv _=>ps.length - (intOf iv).toNat)
 case atStart=>exact ⟨0,Nat.zero_le _,rfl,OwnN.nil _ _,Below.refl _ _⟩
 case round=>
  obtain ⟨k,hk,rfl,hown,hbr⟩:=hrel
  obtain ⟨la,lc,hv⟩:=hown.ints.len
  subst hv
  have hob:=othersL_len (ps.take k) id
  rw [List.length_take] at hob
  by_cases hlt:k < ps.length
  ·obtain ⟨b,off,c',hv,hbl,hc⟩:=HO1.out.at_ (by omega)
   obtain ⟨rfl,rfl⟩:a1 = some ⟨b,off,none⟩∧c1 = c':=by cases hv;exact ⟨rfl,rfl⟩
   obtain ⟨p,hp⟩:∃ p,ps[k]? = some p:=⟨_,List.getElem?_eq_getElem hlt⟩
   have hc0:wr.cell? ⟨b,off + k * 3,none⟩ = some (.int .i64 p.id):=(peer_cells ((hc k p hp).of_new hbr)).1
   have hki:(k:Int) < (ps.length:Int):=by omega
   have hst:=othersL_step hp id
   have hsz:=hbr.size
   obtain ⟨L,hL⟩:∃ L,othersL (ps.take k) id = L:=⟨_,rfl⟩
   rw [hL] at hown hst hob ⊢
   have HOWN:=Lib.hid hown
   have HBR:=Lib.hid hbr
   have HST:=Lib.hid hst
   have HOB:=Lib.hid hob
   have HSZ:=Lib.hid hsz
   clear hv hc hp hown hbr hst hL hob hsz hbs
   by_cases hid:p.id = id
   ·have hst:=HST.out
    rw [if_pos hid] at hst
    have HST2:=Lib.hid hst
    clear hst
    have hbe:(p.id != id) = false:=by simp [hid]
    go_wp2
    go_roundw
    case rel=>exact ⟨k + 1,by omega,by go_num,by rw [HST2.out];exact HOWN.out,HBR.out⟩
    case measure=>simp [intOf];omega
   ·have hst:=HST.out
    rw [if_neg hid] at hst
    have HST2:=Lib.hid hst
    clear hst
    have hbe:(p.id != id) = true:=by simp [hid]
    go_wp2_with ((with_reducible refine wpList_plain (o:=⟨some 38,Op.call _,_,_,_,_⟩) rfl fun K hK=>?_);refine wp_appN (.tmp 31) (.tmp 37) rfl w1.heap.size _ L rfl (HOWN.out.of_new ((Below.refl _ wr).alloc (Nat.le_refl _) _)) _ [p.id] rfl (one_ints wr p.id _) (by have:=HOB.out;simp;omega) (by have:=HBR.out.size;simp;omega) fun v6 w6 hown6 hg6 hu6=>hK _ _ ?_;have HOWN6:=Lib.hid hown6;have HB6:=Lib.hid ((HBR.out.alloc (HBR.out.size) _).grown hg6 (by have:=HBR.out.size;simp;omega) (fun k e=>(HOWN.out.lt k e).1));clear hown6 hg6 hu6)
    go_roundw
    case rel=>exact ⟨k + 1,by omega,by go_num,by rw [HST2.out];exact HOWN6.out,HB6.out⟩
    case measure=>simp [intOf];omega
  ·have hki:¬ (k:Int) < (ps.length:Int):=by omega
   rw [List.take_of_length_le (by omega)] at hown hob ⊢
   obtain ⟨L,hL⟩:∃ L,othersL ps id = L:=⟨_,rfl⟩
   rw [hL] at hown hob ⊢
   have HLE:=Lib.hid hL
   have HOWN:=Lib.hid hown.ints
   have HB2:=Lib.hid (below_next HB1.out hbr)
   have HOB:=Lib.hid hob
   clear hown hbr hob hL
   go_upto_region 9 with (fail)
   generalize hW5:World.alloc wr _ = w5
   obtain ⟨hs5,hb5⟩:RSrcO w5 wr.heap.size seed∧Below wr.heap.size wr w5:=by
    subst hW5
    exact ⟨⟨heap_alloc_new wr _,hseed⟩,(Below.refl _ wr).alloc (Nat.le_refl _) _⟩
   obtain ⟨g,hg⟩:∃ g,wr.heap.size = g:=⟨_,rfl⟩
   have HG:=Lib.hid (show w.heap.size ≤ g by rw [← hg];exact HB2.out.size)
   have HOWN5:=Lib.hid (HOWN.out.of_new hb5)
   have HB5:=Lib.hid (below_next HB2.out hb5)
   rw [hg] at hs5 ⊢
   have HS5:=Lib.hid hs5
   clear hW5 hs5 hb5 hg hbs
   go_wp2_with (first
    | (go_at_call 154;refine (RSampleO_any g seed _ L cnt _ HS5.out HOWN5.out (by have:=HOB.out;omega)).mono ?_;rintro e w6 ⟨v6,rfl,hi6,hk6,hq6⟩;have HI6:=Lib.hid hi6;have HQ6:=Lib.hid hq6;have HK6:=Lib.hid hk6;clear hi6 hk6 hq6))
   go_ret
   have hbl:=Kept.to_below HB5.out HK6.out HB5.out.size (fun k hk e=>by have h1:=HG.out;omega)
   have hin:=HI6.out
   rw [← HLE.out] at hin
   exact ⟨_,rfl,hin,hbl,fun q hq=>Nat.le_trans HB5.out.size (HQ6.out q hq)⟩
end Go.Proofs.YtnohglkilpnjhaaGreatDoor
