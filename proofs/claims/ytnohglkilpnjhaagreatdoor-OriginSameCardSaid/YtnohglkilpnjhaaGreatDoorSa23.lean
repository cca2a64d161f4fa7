/- Lemmas that the statement of this claim leans on; their own comments are taken out, for the size of the claim. No condition beyond what each lemma states. -/
import Derived.Test.YtnohglkilpnjhaaGreatDoorSa22
set_option linter.unusedVariables false
set_option linter.unusedSimpArgs false
set_option linter.unusedSectionVars false
namespace Go.Proofs.YtnohglkilpnjhaaGreatDoor
open Go.RowKit
set_option maxRecDepth 100000
structure TabStep (mb:Nat) (E E':EntL) (w w':World):Prop where
 kept:Kept (fun k=>¬ ownE mb E k) w w'
 own:∀ k,ownE mb E' k→ownE mb E k∨w.heap.size ≤ k
theorem TabStep.refl (mb:Nat) (E:EntL) (w:World):TabStep mb E E w w:=⟨Kept.refl _ _,fun k h=>.inl h⟩
theorem TabStep.new {mb:Nat} {E E':EntL} {w w' w2:World} (h:TabStep mb E E' w w') (hb:Below w'.heap.size w' w2):TabStep mb E E' w w2:=⟨h.kept.below hb,h.own⟩
theorem TabStep.trans {mb:Nat} {E E1 E2:EntL} {w w1 w2:World} (h:TabStep mb E E1 w w1) (k:TabStep mb E1 E2 w1 w2):TabStep mb E E2 w w2:=by
 refine ⟨⟨k.kept.os.trans h.kept.os,k.kept.tape.trans h.kept.tape,k.kept.output.trans h.kept.output,Nat.le_trans h.kept.size k.kept.size,fun j hj hu=>?_⟩,fun j hj=>?_⟩
 ·refine (k.kept.block j (Nat.lt_of_lt_of_le hj h.kept.size) fun hx=>?_).trans (h.kept.block j hj hu)
  rcases h.own j hx with h1 | h1
  ·exact hu h1
  ·omega
 ·rcases k.own j hj with h1 | h1
  ·exact h.own j h1
  ·exact .inr (Nat.le_trans h.kept.size h1)
theorem TabStep.grown {mb b:Nat} {E E1 E2:EntL} {w w1 w2:World} (h:TabStep mb E E1 w w1) (hg:w1.grownBy w2 (some b)) (hb:ownE mb E1 b) (ho:∀ k,ownE mb E2 k→ownE mb E1 k):TabStep mb E E2 w w2:=
 h.trans ⟨(Kept.refl _ w1).grown hg (fun r e=>by cases e;exact fun hn=>hn hb),fun k hk=>.inl (ho k hk)⟩
theorem TabStep.below {mb B:Nat} {E E':EntL} {w0 w w':World} (h:TabStep mb E E' w w') (hb:Below B w0 w) (hB:B ≤ w.heap.size) (ho:∀ k,ownE mb E k→B ≤ k):Below B w0 w':=
 h.kept.to_below hb hB fun k hk hx=>by have:=ho k hx;omega
theorem build_peer (a c:Int) (x:Bool) (W:World):(Instr.build 137 #[(0,.int .i64 a),(1,.int .i64 c),(2,.bool x)]).run Tryz.prog W = .ok (.agg #[.int .i64 a,.int .i64 c,.bool x]) W:=by kernel_rfl
theorem first_below {P:Program} {f:FuncId} {args:Array Value} {w:World} {v:Value} {q:Prop} (h:Calls P f args w fun e w'=>e = .returned v∧q∧Below w.heap.size w w'):Calls P f args w fun e w'=>e = .returned v∧Below w.heap.size w w':=h.mono fun e w' ⟨h1,_,h3⟩=>⟨h1,h3⟩
def AnnPost (w:World) (t mb:Nat) (most each:Int) (E:EntL) (d:List UInt8) (id now life:Int) (seed:Bool) (e:Ending) (w':World):Prop:=
 ∃ E',tabOf E' = (annT most each (tabOf E) d id now life seed).1∧e = .returned (.int .i64 (annT most each (tabOf E) d id now life seed).2)∧TabP w' t most each mb E'∧TabStep mb E E' w w'
structure AnnMid (w:World) (t mb:Nat) (most each:Int) (E:EntL) (d:List UInt8) (ps:List PeerL) (m:Value) (W:World) (E1:EntL) (b:Nat):Prop where
 val:m = .map (some b)
 tab:TabP W t most each mb E1
 mem:(d,(b,ps)) ∈ E1
 rise:Rising kD E1
 dig:∀ x ∈ E1,x.1.length = 32
 len:E1.length ≤ 100000
 back:∀ ps',tabOf (insK kD (d,(b,ps')) E1) = insK kD (d,ps') (tabOf E)
 step:TabStep mb E E1 w W
 box:DigO W w.heap.size d
structure AnnSt (w:World) (t mb:Nat) (most each:Int) (E:EntL) (d:List UInt8) (ps:List PeerL) (W:World) (E1:EntL) (b:Nat):Prop where
 tab:TabP W t most each mb E1
 mem:(d,(b,ps)) ∈ E1
 rise:Rising kD E1
 dig:∀ x ∈ E1,x.1.length = 32
 len:E1.length ≤ 200000
 back:tabOf E1 = insK kD (d,ps) (tabOf E)
 step:TabStep mb E E1 w W
 box:DigO W w.heap.size d
theorem AnnSt.inner {w:World} {t mb:Nat} {most each:Int} {E:EntL} {d:List UInt8} {ps:List PeerL} {W:World} {E1:EntL} {b:Nat} (h:AnnSt w t mb most each E d ps W E1 b):MapL KInt W b (ps.map inE):=h.tab.ins _ h.mem
theorem AnnSt.new {w:World} {t mb:Nat} {most each:Int} {E:EntL} {d:List UInt8} {ps:List PeerL} {W W':World} {E1:EntL} {b:Nat} (h:AnnSt w t mb most each E d ps W E1 b) (hb:Below W.heap.size W W'):AnnSt w t mb most each E d ps W' E1 b:=
 ⟨h.tab.of_new hb,h.mem,h.rise,h.dig,h.len,h.back,h.step.new hb,h.box.of_new hb⟩
theorem AnnSt.set {w:World} {t mb:Nat} {most each:Int} {E:EntL} {d:List UInt8} {ps ps':List PeerL} {W W':World} {E1:EntL} {b:Nat} (h:AnnSt w t mb most each E d ps W E1 b) (hm:MapL KInt W' b (ps'.map inE)) (hg:W.grownBy W' (some b)) (hr:Rising kD (tabOf E)):AnnSt w t mb most each E d ps' W' (insK kD (d,(b,ps')) E1) b:=by
 refine ⟨h.tab.set h.rise h.mem hm hg,(mem_insK h.rise).2 (.inl rfl),h.rise.ins _,fun x hx=>?_,?_,?_,h.step.grown hg (.inr ⟨_,h.mem,rfl⟩) (fun k hk=>own_set h.rise h.mem hk),h.box.of_block (hg.block _ h.box.lt (fun e=>?_))⟩
 ·rcases (mem_insK h.rise).1 hx with rfl | ⟨h1,_⟩
  ·exact h.dig (d,(b,ps)) h.mem
  ·exact h.dig x h1
 ·have h0:getK kD (kD (d,(b,ps'))) E1 = some (d,(b,ps)):=(getK_some h.rise).2 ⟨h.mem,rfl⟩
  rw [insK_len h.rise,h0]
  exact h.len
 ·rw [tabOf_ins,h.back,insK_ins (f:=kD) (x:=(d,ps')) (y:=(d,ps)) hr rfl]
 ·have h1:b = w.heap.size:=by cases e;rfl
  obtain ⟨es,⟨a,c,h4,_⟩,_⟩:=h.inner
  rw [h1,h.box.1] at h4;cases h4
set_option maxHeartbeats 6400000 in
theorem Announce_any (t mb:Nat) (most each:Int) (E:EntL) (d:List UInt8) (id now life:Int) (seed:Bool) (w:World) (hT:TabP w t most each mb E) (hE:EntOk most each E) (hm:1 ≤ most∧most ≤ 1000) (he:1 ≤ each∧each ≤ 64) (h32:d.length = 32) :
  Calls Tryz.prog 41 #[.pointer (some ⟨t,0,none⟩),.agg (d.map B8).toArray,.int .i64 id,.int .i64 now,.int .i64 life,.bool seed] w (AnnPost w t mb most each E d id now life seed):=by
 have hdig:∀ x ∈ E,x.1.length = 32:=fun x hx=>hE.dig _ (tabOf_mem hx)
 have hrise:Rising kD E:=entL_rise hE.rise
 have hElen:E.length ≤ 1000:=by have:=hE.few;unfold tabOf at this;rw [List.length_map] at this;omega
 by_cases hargs:argsB id now life = true
 ·have hA:=hargs
  simp only [argsB,Bool.and_eq_true,decide_eq_true_eq] at hA
  have c1:within id 1 65536 = true:=decide_eq_true hA.1
  have c2:within now 0 1099511627776 = true:=decide_eq_true hA.2.1
  have c3:within life 1 1048576 = true:=decide_eq_true hA.2.2
  have hann:annT most each (tabOf E) d id now life seed = (roomT most (insK kD (d,roomP each (withP id (now + life) seed (peersT d (tabOf E)))) (tabOf E)),0):=by unfold annT;rw [if_pos hargs]
  unfold AnnPost
  rw [hann]
  clear hann hargs
  obtain ⟨W,hW⟩:∃ W,w.alloc (.cells (d.map B8).toArray 31) = W:=⟨_,rfl⟩
  have ho:DigO W w.heap.size d:=by rw [← hW];exact digO_new w h32
  have hb:Below w.heap.size w W:=by rw [← hW];exact (Below.refl _ w).alloc (Nat.le_refl _) _
  have hTW:=hT.of_new hb
  obtain ⟨hps,hpl⟩:=peersT_ok hE he.1 d
  obtain ⟨ps,hps2⟩:∃ ps,peersT d (tabOf E) = ps:=⟨_,rfl⟩
  obtain ⟨m,is,hms,hlook⟩:∃ m is,((is = false∧m = .map none∧getK kD (natL d) E = none∧ps = [])∨(is = true∧∃ b,m = .map (some b)∧(d,(b,ps)) ∈ E))∧∀ w',Grew W w'→(Instr.lookup 155 (.map (some mb)) (.agg (d.map B8).toArray) true).run Tryz.prog w' = .ok (.tuple #[m,.bool is]) w':=by
   refine ⟨((getK kD (natL d) E).map (fun x=>.map (some x.2.1))).getD (.map none),(getK kD (natL d) E).isSome,?_,fun w' h=>?_⟩
   ·cases e:getK kD (natL d) E with
    | none=>exact .inl ⟨rfl,rfl,rfl,by rw [← hps2];unfold peersT;rw [← tabOf_get,e];rfl⟩
    | some x=>
     obtain ⟨h1,h2⟩:=(getK_some hrise).1 e
     have hx1:x.1 = d:=natL_inj _ _ (by rw [hdig x h1,h32]) (by unfold kD at h2;omega)
     refine .inr ⟨rfl,x.2.1,rfl,?_⟩
     have:ps = x.2.2:=by rw [← hps2];unfold peersT;rw [← tabOf_get,e];rfl
     rw [this,← hx1];exact h1
   ·have:=(hTW.map.of_new h).look_ok (t:=155) Tryz.underlying155 (zero_peers w') (KT:=KDig) (x:=d) h32
    rw [getL_out hdig h32,hasKey_get,getL_out hdig h32,Option.isSome_map] at this
    exact this
  rw [hps2] at hps hpl ⊢
  have hc2:=fun w' (h:Grew W w')=>Grew.cell h hTW.cell2
  have hdg:DigAt W w.heap.size 0 d:=ho.at_
  have HW:=Lib.hid hW
  have HB:=Lib.hid hb
  have HT:=Lib.hid hTW
  have HPS:=Lib.hid hps
  have HPL:=Lib.hid hpl
  have HO:=Lib.hid ho
  have HDG:=Lib.hid hdig
  have HRS:=Lib.hid hrise
  have HEL:=Lib.hid hElen
  have H32:=Lib.hid h32
  have HP2:=Lib.hid hps2
  have HRT:=Lib.hid hE.rise
  clear hT hE hW hb hTW hps hpl ho hdig hrise hElen h32 hps2
  have HMS:=Lib.hid hms
  clear hms
  go_enter Tryz.func41,Tryz.ntmps41
  go_upto_region 1 with (fail)
  rw [HW.out]
  go_upto_region 3 with (go_at_call 72;refine (within_any _ _ _ _).mono ?_;rintro e w1 ⟨rfl,rfl⟩)
  refine wp_region_grew (by kernel_rfl) (by kernel_rfl) ?_
  repeat (first
   | (go_big_quiet_want;(with_reducible apply quiet_load_at (ty:=31) (x:=.tmp _));rfl;rfl;assumption;go_simp;go_big_quiet_on)
   | (go_big_quiet_want;apply quiet_val;(intro w' hw';go_simp;first | done | rfl);go_simp;go_big_quiet_on)
   | (go_big_quiet_skip))
  refine wpQuiet_nil ?_
  intro w3 hw3
  have HT3:=Lib.hid (HT.out.of_new hw3)
  have HO3:=Lib.hid (HO.out.of_new hw3)
  have HB3:=Lib.hid (below_next HB.out hw3)
  clear hlook hc2 hdg hw3
  go_upto_if 39 with (fail)
  go_cut [13] from 16 (fun s13 W'=>∃ E1 b,AnnMid w t mb most each E d ps s13 W' E1 b)
  case first=>
   rcases HMS.out with ⟨rfl,rfl,hno,rfl⟩ | ⟨rfl,b,rfl,hmem⟩
   ·have HNO:=Lib.hid hno
    have hmm:=@run_makeMap Tryz.prog
    clear hno
    go_upto_region 6 with (fail)
    obtain ⟨w5,hw5⟩:∃ w5,w3.alloc (.map #[] 0) = w5:=⟨_,rfl⟩
    have hb5:Below w3.heap.size w3 w5:=by rw [← hw5];exact (Below.refl _ w3).alloc (Nat.le_refl _) _
    have hin:MapL KInt w5 w3.heap.size []:=by rw [← hw5];exact mapL_made w3
    rw [hw5]
    have hT5:=HT3.out.of_new hb5
    have hdg:DigAt w5 w.heap.size 0 d:=(HO3.out.of_new hb5).at_
    have hc2:=fun w' (h:Grew w5 w')=>Grew.cell h hT5.cell2
    have HT5:=Lib.hid hT5
    have HIN:=Lib.hid hin
    have HB5:=Lib.hid (below_next HB3.out hb5)
    have HO5:=Lib.hid (HO3.out.of_new hb5)
    have HW5:=Lib.hid hw5
    clear hb5 hin hT5 hw5
    refine wp_region_grew_tail 6 (by kernel_rfl) (by kernel_rfl) ?_
    simp only [List.take_succ_cons,List.take_zero,List.drop_succ_cons,List.drop_zero]
    repeat (first
     | (go_big_quiet_want;(with_reducible apply quiet_load_at (ty:=31) (x:=.tmp _));rfl;rfl;assumption;go_simp;go_big_quiet_on)
     | (go_big_quiet_want;apply quiet_val;(intro w' hw';go_simp;first | done | rfl);go_simp;go_big_quiet_on)
     | (go_big_quiet_skip))
    refine wpQuiet_nil ?_
    intro w6 hw6
    have hT6:=HT5.out.of_new hw6
    obtain ⟨w7,hput,hml,hgr,hsz⟩:=hT6.map.put (t:=155) Tryz.underlying155 (KT:=KDig) (x:=d) H32.out (.map (some w3.heap.size)) (by rw [List.length_map];have:=HEL.out;omega)
    replace hput:(Instr.mapUpdate 155 (.map (some mb)) (.agg (d.map B8).toArray) (.map (some w3.heap.size))).run Tryz.prog w6 = .ok () w7:=hput
    have hlt3:∀ k,ownE mb E k→k < w3.heap.size:=fun k hk=>HT3.out.own_lt hk
    have hmid:AnnMid w t mb most each E d [] (.map (some w3.heap.size)) w7 (insK kD (d,(w3.heap.size,[])) E) w3.heap.size:=by
     have hb3s:=HB3.out.size
     have hT7:=hT6.put_new HRS.out HDG.out H32.out HNO.out ⟨by have:=HT3.out.lt;omega,fun h=>by have:=hlt3 _ h;omega⟩ (HIN.out.of_new hw6) hml hgr
     have hB6:=below_next HB5.out hw6
     refine ⟨rfl,hT7,(mem_insK HRS.out).2 (.inl rfl),HRS.out.ins _,fun x hx=>?_,?_,fun ps'=>?_,⟨((Kept.refl _ w).below hB6).grown hgr (fun r e=>by cases e;exact fun h=>h (.inl rfl)),fun k hk=>?_⟩,(HO5.out.of_new hw6).of_block (hgr.block _ (HO5.out.of_new hw6).lt (fun e=>?_))⟩
     ·rcases (mem_insK HRS.out).1 hx with rfl | ⟨h1,_⟩
      ·exact H32.out
      ·exact HDG.out x h1
     ·rw [insK_len HRS.out];have:=HEL.out;split <;> omega
     ·rw [insK_ins (f:=kD) (x:=(d,(w3.heap.size,ps'))) (y:=(d,(w3.heap.size,[]))) HRS.out rfl,tabOf_ins]
     ·rcases own_put_new HRS.out hk with h | h
      ·exact .inl h
      ·exact .inr (by omega)
     ·have h1:mb = w.heap.size:=by cases e;rfl
      have h2:=HT.out.map
      have h3:=HO.out.1
      obtain ⟨es,⟨a,c,h4,_⟩,_⟩:=h2
      rw [h1,h3] at h4;cases h4
    have HMID:=Lib.hid hmid
    clear hc2 hdg hml hgr hsz hT6 hw6 hlt3 hmid
    go_wp2
    go_meet
    exact ⟨_,_,HMID.out⟩
   ·have hmid:AnnMid w t mb most each E d ps (.map (some b)) w3 E b:=by
     refine ⟨rfl,HT3.out,hmem,HRS.out,HDG.out,by have:=HEL.out;omega,fun ps'=>tabOf_ins _,⟨(Kept.refl _ w).below HB3.out,fun k hk=>.inl hk⟩,HO3.out⟩
    have HMID:=Lib.hid hmid
    clear hmid hmem
    go_wp2
    go_meet
    exact ⟨_,_,HMID.out⟩
  case rest=>
   obtain ⟨E1,b,hmid⟩:=hcut
   have hv:=hmid.val
   subst hv
   have HMID:=Lib.hid hmid
   have hin:MapL KInt wc b (ps.map inE):=hmid.tab.ins _ hmid.mem
   obtain ⟨o,ho⟩:∃ o,oldP id ps = o:=⟨_,rfl⟩
   have hlk:=hin.look (t:=168) Tryz.underlying168 (zero_peer wc) (KT:=KInt) (x:=id) (show _∧_ by omega)
   rw [getL_in,show ((getK PeerL.id id ps).map RPeer.V).getD (RPeer.V PeerL.zero) = RPeer.V (oldP id ps) by unfold oldP;cases getK PeerL.id id ps <;> rfl,ho] at hlk
   replace hlk:(Instr.lookup 168 (.map (some b)) (.int .i64 id) false).run Tryz.prog wc = .ok (RPeer.V o) wc:=hlk
   have hoT:=oldP_le HPS.out id
   rw [ho] at hoT
   have HO9:=Lib.hid ho
   have HIN:=Lib.hid hin
   clear hin ho hmid
   go_upto_region 8 with (first
    | ((with_reducible refine wpList_plain (o:=⟨some 15,Op.alloc _,_,_,_,_⟩) rfl fun K hK=>?_);(refine RPeer.wp_alloc rfl fun w7 ho7 hb7 hs7=>hK _ _ ?_);have HO7:=Lib.hid ho7;have HB7:=Lib.hid hb7;clear ho7 hb7 hs7)
    | ((with_reducible refine wpList_plain (o:=⟨none,Op.store _ (.tmp 15) (.tmp 49),_,_,_,_⟩) rfl fun K hK=>?_);(refine HO7.out.store (.tmp 15) (.tmp 49) rfl rfl rfl (RPeer_ok o) fun w8 ho8 hg8 hs8=>hK _ _ ?_);have HB8:=Lib.hid (HB7.out.grown hg8 (by have:=HB7.out.size;omega) (fun k e=>by cases e;exact Nat.le_refl _));have HP8:=Lib.hid ho8;clear ho8 hg8 hs8))
   have hc8:=RPeer_till HP8.out
   have hd8:=RPeer_seed HP8.out
   have hin8:=HIN.out.of_new HB8.out
   have HIN8:=Lib.hid hin8
   have hbp:=build_peer
   clear hlk hin8
   try simp only [Act.put]
   try go_frame
   go_cut [13] from 16 (fun s13 W'=>s13 = .map (some b)∧MapL KInt W' b ((withP id (now + life) seed ps).map inE)∧w8.grownBy W' (some b))
   case first=>
    have hput:=fun v=>HIN8.out.put (t:=168) Tryz.underlying168 (KT:=KInt) (x:=id) (show _∧_ by omega) v (by rw [List.length_map];have:=HPL.out;omega)
    cases seed with
    | true=>
     obtain ⟨w9,hp9,hm9,hg9,hs9⟩:=hput (.agg #[.int .i64 id,.int .i64 (max o.till (now + life)),.bool true])
     replace hp9:(Instr.mapUpdate 168 (.map (some b)) (.int .i64 id) (.agg #[.int .i64 id,.int .i64 (max o.till (now + life)),.bool true])).run Tryz.prog w8 = .ok () w9:=hp9
     have HM9:=Lib.hid (show MapL KInt w9 b ((withP id (now + life) true ps).map inE) from by unfold withP;rw [HO9.out];exact put_in (p:=⟨id,max o.till (now + life),true⟩) hm9 HPS.out.rise)
     have HG9:=Lib.hid hg9
     clear hput hm9 hg9 hs9
     go_wp2
     go_meet
     exact ⟨rfl,HM9.out,HG9.out⟩
    | false=>
     obtain ⟨w9,hp9,hm9,hg9,hs9⟩:=hput (.agg #[.int .i64 id,.int .i64 (max o.till (now + life)),.bool o.seed])
     replace hp9:(Instr.mapUpdate 168 (.map (some b)) (.int .i64 id) (.agg #[.int .i64 id,.int .i64 (max o.till (now + life)),.bool o.seed])).run Tryz.prog w8 = .ok () w9:=hp9
     have HM9:=Lib.hid (show MapL KInt w9 b ((withP id (now + life) false ps).map inE) from by unfold withP;rw [HO9.out];exact put_in (p:=⟨id,max o.till (now + life),o.seed⟩) hm9 HPS.out.rise)
     have HG9:=Lib.hid hg9
     clear hput hm9 hg9 hs9
     go_wp2
     go_meet
     exact ⟨rfl,HM9.out,HG9.out⟩
   case rest=>
    rename World=>w9
    obtain ⟨rfl,hm9,hg9⟩:=hcut
    obtain ⟨P1,hP1⟩:∃ P1,withP id (now + life) seed ps = P1:=⟨_,rfl⟩
    have hp1:PsOk P1:=by rw [← hP1];exact HPS.out.withP seed hA.1 (by omega)
    have hp1n:P1 ≠ []:=by rw [← hP1];exact withP_ne HPS.out
    have hp1l:(P1.length:Int) ≤ each + 1:=by have:=withP_len (id:=id) (till:=now + life) (seed:=seed) HPS.out;rw [hP1] at this;have:=HPL.out;omega
    rw [hP1] at hm9
    have hst9:AnnSt w t mb most each E d P1 w9 (insK kD (d,(b,P1)) E1) b:=by
     have hmid:=HMID.out
     refine ⟨(hmid.tab.of_new HB8.out).set hmid.rise hmid.mem hm9 hg9,(mem_insK hmid.rise).2 (.inl rfl),hmid.rise.ins _,fun x hx=>?_,?_,hmid.back P1,(hmid.step.new HB8.out).grown hg9 (.inr ⟨_,hmid.mem,rfl⟩) (fun k hk=>own_set hmid.rise hmid.mem hk),(hmid.box.of_new HB8.out).of_block (hg9.block _ (hmid.box.of_new HB8.out).lt (fun e=>?_))⟩
     ·rcases (mem_insK hmid.rise).1 hx with rfl | ⟨h1,_⟩
      ·exact H32.out
      ·exact hmid.dig x h1
     ·rw [insK_len hmid.rise];have:=hmid.len;split <;> omega
     ·have h1:b = w.heap.size:=by cases e;rfl
      obtain ⟨es,⟨a,c,h4,_⟩,_⟩:=HIN8.out
      rw [h1,(hmid.box.of_new HB8.out).1] at h4;cases h4
    have HST9:=Lib.hid hst9
    have HP1:=Lib.hid hp1
    have HN1:=Lib.hid hp1n
    have HL1:=Lib.hid hp1l
    have HPE:=Lib.hid hP1
    have hlen:=fun w' (h:Grew w9 w') ty=>(hm9.of_new h).len (t:=168) Tryz.underlying168 ty
    simp only [List.length_map] at hlen
    have hc1:=fun w' (h:Grew w9 w')=>Grew.cell h hst9.tab.cell1
    clear hst9 hp1 hp1n hp1l hP1 hm9 hg9 hc8 hd8 hbp
    go_upto_region 9 with (fail)
    refine wp_region_grew (by kernel_rfl) (by kernel_rfl) ?_
    repeat (first
     | (go_big_quiet_want;(with_reducible apply quiet_load_at (ty:=31) (x:=.tmp _));rfl;rfl;assumption;go_simp;go_big_quiet_on)
     | (go_big_quiet_want;apply quiet_val;(intro w' hw';go_simp;first | done | rfl);go_simp;go_big_quiet_on)
     | (go_big_quiet_skip))
    refine wpQuiet_nil ?_
    intro w10 hw10
    have HST10:=Lib.hid (HST9.out.new hw10)
    clear hlen hc1 hw10
    go_upto_if 71 with (fail)
    go_cut [13] from 16 (fun s13 W'=>∃ E3 P3,roomP each P1 = P3∧AnnSt w t mb most each E d P3 W' E3 b)
    case first=>
     by_cases hbig:each < (P1.length:Int)
     ·have hroom:roomP each P1 = delK PeerL.id (firstP P1).id P1:=if_pos hbig
      have HRM:=Lib.hid hroom
      clear hroom
      go_wp2_with (go_at_call 83;refine (PFirst_any (.map (some b)) P1 _ (.inl ⟨b,rfl,HST10.out.inner⟩) HP1.out.rise HN1.out (by have:=HL1.out;omega)).mono ?_;rintro e w11 ⟨rfl,hb11⟩;have HST11:=Lib.hid (HST10.out.new hb11);have hfid:=HP1.out.ok _ (firstP_mem HN1.out);unfold PeerOk at hfid;obtain ⟨w12,hdel,hm12,hg12,hs12⟩:=HST11.out.inner.del (t:=168) Tryz.underlying168 (KT:=KInt) (x:=(firstP P1).id) (show _∧_ by omega) 0;replace hdel:(Builtin.delete_ #[168,3] 0 #[.map (some b),.int .i64 (firstP P1).id]).run Tryz.prog w11 = .ok (.tuple #[]) w12:=hdel;have HST12:=Lib.hid (HST11.out.set (ps':=delK PeerL.id (firstP P1).id P1) (by rwa [delL_in] at hm12) hg12 HRT.out);clear hfid hm12 hg12 hs12 hb11)
      go_meet
      exact ⟨_,_,HRM.out,HST12.out⟩
     ·have hroom:roomP each P1 = P1:=if_neg hbig
      have HRM:=Lib.hid hroom
      clear hroom
      go_wp2
      go_meet
      exact ⟨_,_,HRM.out,HST10.out⟩
    case rest=>
     rename World=>w13
     obtain ⟨E3,P3,hr3,hst3⟩:=hcut
     have hl3:=hst3.tab.map
     have hlen:=fun w' (h:Grew w13 w') ty=>(hl3.of_new h).len (t:=155) Tryz.underlying155 ty
     simp only [List.length_map] at hlen
     have hc0:=fun w' (h:Grew w13 w')=>Grew.cell h hst3.tab.cell0
     have hc2:=fun w' (h:Grew w13 w')=>Grew.cell h hst3.tab.cell2
     have HST3:=Lib.hid hst3
     have HR3:=Lib.hid hr3
     clear hl3 hst3 hr3
     go_upto_region 11 with (fail)
     refine wp_region_grew (by kernel_rfl) (by kernel_rfl) ?_
     repeat (first
      | (go_big_quiet_want;(with_reducible apply quiet_load_at (ty:=31) (x:=.tmp _));rfl;rfl;assumption;go_simp;go_big_quiet_on)
      | (go_big_quiet_want;apply quiet_val;(intro w' hw';go_simp;first | done | rfl);go_simp;go_big_quiet_on)
      | (go_big_quiet_skip))
     refine wpQuiet_nil ?_
     intro w14 hw14
     have HST14:=Lib.hid (HST3.out.new hw14)
     clear hlen hc0 hc2 hw14
     have hfin:∃ T3,tabOf E3 = T3∧T3.length = E3.length∧T3 = insK kD (d,roomP each (withP id (now + life) seed ps)) (tabOf E):=⟨_,rfl,by simp [tabOf],by rw [HPE.out,HR3.out];exact HST14.out.back⟩
     obtain ⟨T3,hT3,hT3l,hT3e⟩:=hfin
     have HFT:=Lib.hid hT3
     have HFL:=Lib.hid hT3l
     have HFE:=Lib.hid hT3e
     clear hT3 hT3l hT3e
     by_cases hbig:most < (E3.length:Int)
     ·have hroom:roomT most T3 = delK kD (natL (firstT T3).1) T3:=if_pos (by rw [HFL.out];exact hbig)
      have HRM:=Lib.hid hroom
      have hc2:=fun w' (h:Grew w14 w')=>Grew.cell h HST14.out.tab.cell2
      have hrT:Rising kD (tabOf E3):=Rising.map (f:=kD) (fun _=>rfl) HST14.out.rise
      have HRT3:=Lib.hid hrT
      clear hroom hrT
      go_upto_region 12 with (fail)
      refine wp_region_grew_tail 6 (by kernel_rfl) (by kernel_rfl) ?_
      simp only [List.take_succ_cons,List.take_zero,List.drop_succ_cons,List.drop_zero]
      repeat (first
       | (go_big_quiet_want;(with_reducible apply quiet_load_at (ty:=31) (x:=.tmp _));rfl;rfl;assumption;go_simp;go_big_quiet_on)
       | (go_big_quiet_want;apply quiet_val;(intro w' hw';go_simp;first | done | rfl);go_simp;go_big_quiet_on)
       | (go_big_quiet_want;apply quiet_call (f:=84);(intro w' hw';go_simp;first | done | rfl);(intro w' hw';exact Grew.call hw' (first_below (TFirst_any t mb most each E3 w' (HST14.out.tab.of_new hw') HRT3.out HST14.out.dig (fun e=>by have:=HST14.out.mem;rw [e] at this;cases this) (by have:=HST14.out.len;omega))));go_simp;go_big_quiet_on)
       | (go_big_quiet_skip))
      refine wpQuiet_nil ?_
      intro w15 hw15
      have HST15:=Lib.hid (HST14.out.new hw15)
      clear hc2 hw15
      rw [HFT.out]
      have hf32:(firstT T3).1.length = 32:=by
       have hne:T3 ≠ []:=fun e=>by
        have h1:=HFL.out
        rw [e] at h1
        have h2:=HST15.out.mem
        rw [List.eq_nil_of_length_eq_zero h1.symm] at h2
        cases h2
       have hm:=firstT_mem hne
       rw [← HFT.out] at hm ⊢
       obtain ⟨x,hx,he⟩:=List.mem_map.1 hm
       rw [← he];exact HST15.out.dig x hx
      generalize hf:(firstT T3).1 = f at *
      obtain ⟨w16,hdel,hml,hgr,hsz⟩:=HST15.out.tab.map.del (t:=155) Tryz.underlying155 (KT:=KDig) (x:=f) hf32 0
      replace hdel:(Builtin.delete_ #[155,31] 0 #[.map (some mb),RDig.V f]).run Tryz.prog w15 = .ok (.tuple #[]) w16:=hdel
      have hT16:=HST15.out.tab.cut HST15.out.dig hf32 hml hgr
      have hS16:TabStep mb E (delK kD (natL f) E3) w w16:=HST15.out.step.grown hgr (.inl rfl) (fun k hk=>own_cut hk)
      have HT16:=Lib.hid hT16
      have HS16:=Lib.hid hS16
      clear hT16 hS16 hml hgr hsz hf hf32
      go_wp2
      go_ret
      exact ⟨delK kD (natL f) E3,by rw [tabOf_del,HFT.out,← HFE.out,HRM.out],rfl,HT16.out,HS16.out⟩
     ·have hroom:roomT most T3 = T3:=if_neg (by rw [HFL.out];exact hbig)
      have HRM:=Lib.hid hroom
      clear hroom
      go_wp2
      go_ret
      exact ⟨E3,by rw [HFT.out,← HFE.out,HRM.out],rfl,HST14.out.tab,HST14.out.step⟩
 ·have hann:annT most each (tabOf E) d id now life seed = (tabOf E,1):=by unfold annT;rw [if_neg hargs]
  unfold AnnPost
  rw [hann]
  have hb:Below w.heap.size w (w.alloc (.cells (d.map B8).toArray 31)):=(Below.refl _ w).alloc (Nat.le_refl _) _
  have HT:=Lib.hid (hT.of_new hb)
  have HB:=Lib.hid hb
  have h3:within id 1 65536 = false∨(within id 1 65536 = true∧within now 0 1099511627776 = false)∨(within id 1 65536 = true∧within now 0 1099511627776 = true∧within life 1 1048576 = false):=by
   have:argsB id now life = (within id 1 65536 && (within now 0 1099511627776 && within life 1 1048576)):=rfl
   rcases e1:within id 1 65536 with _ | _
   ·exact .inl rfl
   ·rcases e2:within now 0 1099511627776 with _ | _
    ·exact .inr (.inl ⟨rfl,rfl⟩)
    ·rcases e3:within life 1 1048576 with _ | _
     ·exact .inr (.inr ⟨rfl,rfl,rfl⟩)
     ·exact absurd (by rw [this,e1,e2,e3];rfl) hargs
  clear hann hargs hT hE hdig hrise hElen hb
  rcases h3 with c1 | ⟨c1,c2⟩ | ⟨c1,c2,c3⟩
  all_goals
   go_enter Tryz.func41,Tryz.ntmps41
   go_wp2_with (go_at_call 72;refine (within_any _ _ _ _).mono ?_;rintro e w1 ⟨rfl,rfl⟩)
   go_ret
   exact ⟨E,rfl,rfl,HT.out,(TabStep.refl mb E w).new HB.out⟩
def othersL (l:List PeerL) (id:Int):List Int:=(l.filter (fun p=>p.id != id)).map (fun p=>p.id)
theorem othersL_step {l:List PeerL} {k:Nat} {p:PeerL} (hp:l[k]? = some p) (id:Int):othersL (l.take (k + 1)) id = if p.id = id then othersL (l.take k) id else othersL (l.take k) id ++ [p.id]:=by
 have hk:k < l.length:=(List.getElem?_eq_some_iff.1 hp).1
 have e:l.take (k + 1) = l.take k ++ [p]:=by rw [List.take_add_one,hp];rfl
 unfold othersL
 rw [e,List.filter_append]
 by_cases h:p.id = id
 ·simp [h]
 ·simp [h]
theorem othersL_len (l:List PeerL) (id:Int):(othersL l id).length ≤ l.length:=by
 unfold othersL
 rw [List.length_map]
 exact List.length_filter_le _ _
def AskI (w1:World) (ps:List PeerL) (id:Int) (lv iv:Value) (W:World):Prop:=
 ∃ k:Nat,k ≤ ps.length∧iv = .int .i64 (k:Int)∧OwnN W w1.heap.size lv (othersL (ps.take k) id)∧Below w1.heap.size w1 W
set_option maxHeartbeats 3200000 in
theorem AskO_any (t mb:Nat) (most each:Int) (E:EntL) (d:List UInt8) (id many:Int) (seed:Nat) (w:World) (hT:TabP w t most each mb E) (hE:EntOk most each E) (he:1 ≤ each∧each ≤ 64) (h32:d.length = 32) (hseed:seed < 18446744073709551616) :
  Calls Tryz.prog 42 #[.pointer (some ⟨t,0,none⟩),.agg (d.map B8).toArray,.int .i64 id,.int .i64 many,.int .u64 (seed:Int)] w fun e w'=>∃ v,e = .returned v∧Ints w' v (sampleL seed (othersL (peersT d (tabOf E)) id) many)∧Below w.heap.size w w'∧∀ q,v.ownBlock = some q→w.heap.size ≤ q∧∃ cur,w'.heap[q]? = some (.cells cur 3 (0,0)):=by
 obtain ⟨W,hW⟩:∃ W,w.alloc (.cells (d.map B8).toArray 31) = W:=⟨_,rfl⟩
 have ho:DigO W w.heap.size d:=by rw [← hW];exact digO_new w h32
 have hb:Below w.heap.size w W:=by rw [← hW];exact (Below.refl _ w).alloc (Nat.le_refl _) _
 have hTW:=hT.of_new hb
 have hP:=Peers_any t mb most each E d W hTW hE he h32
 obtain ⟨hps,hpl⟩:=peersT_ok hE he.1 d
 obtain ⟨ps,hps2⟩:∃ ps,peersT d (tabOf E) = ps:=⟨_,rfl⟩
 rw [hps2] at hP hps hpl ⊢
 have hWs:w.heap.size < W.heap.size:=ho.lt
 have hl64:ps.length ≤ 64:=by omega
 have hdg:DigAt W w.heap.size 0 d:=ho.at_
 have HDG:=Lib.hid hdg
 have HW:=Lib.hid hW
 have HB:=Lib.hid hb
 have HP:=Lib.hid hP
 have HWS:=Lib.hid hWs
 clear hT hE hW hb hTW hP hps hps2 ho hpl hdg hWs
 go_enter Tryz.func42,Tryz.ntmps42
 go_upto_region 1 with (fail)
 rw [HW.out]
 go_wp2_with (first
  | ((with_reducible refine wpList_plain (o:=⟨some 15,Op.load _ _,_,_,_,_⟩) rfl fun K hK=>?_);(refine wp_load_at (ty:=31) (x:=.tmp 6) rfl rfl HDG.out (hK _ _ ?_)))
  | (go_at_call 64;refine HP.out.mono ?_;rintro e w1 ⟨v1,rfl,ho1,hb1⟩;obtain ⟨a1,c1,hv⟩:=ho1.row.len;subst hv;have HO1:=Lib.hid ho1.row;have HB1:=Lib.hid (below_next HB.out hb1);have HS1:=Lib.hid hb1.size;clear ho1 hb1))
 go_loopw [11,13,18] (fun lv _ iv W'=>AskI w1 ps id lv iv W') (fun _ _ iv _=>ps.length - (intOf iv).toNat)
 case atStart=>exact ⟨0,Nat.zero_le _,rfl,OwnN.nil _ _,Below.refl _ _⟩
 case round=>
  obtain ⟨k,hk,rfl,hown,hbr⟩:=hrel
  obtain ⟨la,lc,hv⟩:=hown.ints.len
  subst hv
  have hob:=othersL_len (ps.take k) id
  rw [List.length_take] at hob
  by_cases hlt:k < ps.length
  ·obtain ⟨b,off,c',hv,hbl,hc⟩:=HO1.out.at_ (by omega)
   obtain ⟨rfl,rfl⟩:a1 = some ⟨b,off,none⟩∧c1 = c':=by cases hv;exact ⟨rfl,rfl⟩
   obtain ⟨p,hp⟩:∃ p,ps[k]? = some p:=⟨_,List.getElem?_eq_getElem hlt⟩
   have hat:=(hc k p hp).of_new hbr
   have hki:(k:Int) < (ps.length:Int):=by omega
   have hst:=othersL_step hp id
   have hsz:=hbr.size
   obtain ⟨L,hL⟩:∃ L,othersL (ps.take k) id = L:=⟨_,rfl⟩
   rw [hL] at hown hst hob ⊢
   have HOWN:=Lib.hid hown
   have HBR:=Lib.hid hbr
   have HAT:=Lib.hid hat
   have HST:=Lib.hid hst
   have HOB:=Lib.hid hob
   have HSZ:=Lib.hid hsz
   clear hv hc hp hown hbr hat hst hL hob hsz
   go_upto_region 5 with (first
    | ((with_reducible refine wpList_plain (o:=⟨some 21,Op.load _ _,_,_,_,_⟩) rfl fun K hK=>?_);(refine HAT.out.wp rfl rfl (hK _ _ ?_)))
    | ((with_reducible refine wpList_plain (o:=⟨some 13,Op.alloc _,_,_,_,_⟩) rfl fun K hK=>?_);(refine RPeer.wp_alloc rfl fun w4 ho4 hb4 hs4=>hK _ _ ?_);have HO4:=Lib.hid ho4;have HB4:=Lib.hid hb4;clear ho4 hb4 hs4)
    | ((with_reducible refine wpList_plain (o:=⟨none,Op.store _ (.tmp 13) (.tmp 21),_,_,_,_⟩) rfl fun K hK=>?_);(refine HO4.out.store (.tmp 13) (.tmp 21) rfl rfl rfl (RPeer_ok p) fun w5 ho5 hg5 hs5=>hK _ _ ?_);have HO5:=Lib.hid ho5;have HB5:=Lib.hid (HB4.out.grown hg5 (by have:=HB4.out.size;omega) (fun k e=>by cases e;exact Nat.le_refl _));clear ho5 hg5 hs5))
   have hc0:=RPeer_id HO5.out
   by_cases hid:p.id = id
   ·have hst:=HST.out
    rw [if_pos hid] at hst
    have HST2:=Lib.hid hst
    clear hst
    have hbe:(p.id != id) = false:=by simp [hid]
    have hbe2:(p.id == id) = true:=by simp [hid]
    go_wp2
    go_roundw
    case rel=>exact ⟨k + 1,by omega,by go_num,by rw [HST2.out];exact HOWN.out.of_new HB5.out,below_next HBR.out HB5.out⟩
    case measure=>simp [intOf];omega
   ·have hst:=HST.out
    rw [if_neg hid] at hst
    have HST2:=Lib.hid hst
    clear hst
    have hbe:(p.id != id) = true:=by simp [hid]
    have hbe2:(p.id == id) = false:=by simp [hid]
    have HOWN5:=Lib.hid (HOWN.out.of_new HB5.out)
    have HBR5:=Lib.hid (below_next HBR.out HB5.out)
    go_wp2_with ((with_reducible refine wpList_plain (o:=⟨some 30,Op.call _,_,_,_,_⟩) rfl fun K hK=>?_);refine wp_appN (.tmp 26) (.tmp 29) rfl w1.heap.size _ L rfl (HOWN5.out.of_new ((Below.refl _ w5).alloc (Nat.le_refl _) _)) _ [p.id] rfl (one_ints w5 p.id _) (by have:=HOB.out;simp;omega) (by have:=HBR5.out.size;simp;omega) fun v6 w6 hown6 hg6 hu6=>hK _ _ ?_;have HOWN6:=Lib.hid hown6;have HB6:=Lib.hid ((HBR5.out.alloc (HBR5.out.size) _).grown hg6 (by have:=HBR5.out.size;simp;omega) (fun k e=>(HOWN5.out.lt k e).1));clear hown6 hg6 hu6)
    go_roundw
    case rel=>exact ⟨k + 1,by omega,by go_num,by rw [HST2.out];exact HOWN6.out,HB6.out⟩
    case measure=>simp [intOf];omega
  ·have hki:¬ (k:Int) < (ps.length:Int):=by omega
   rw [List.take_of_length_le (by omega)] at hown hob ⊢
   obtain ⟨L,hL⟩:∃ L,othersL ps id = L:=⟨_,rfl⟩
   rw [hL] at hown hob ⊢
   have HLE:=Lib.hid hL
   have HOWN:=Lib.hid hown.ints
   have HB2:=Lib.hid (below_next HB1.out hbr)
   have HOB:=Lib.hid hob
   clear hown hbr hob hL
   go_wp2_with (first
    | (go_at_call 85;refine (DNew_any seed _ hseed).mono ?_;rintro e w5 ⟨g,rfl,hs5,hg5,hb5⟩;have HS5:=Lib.hid hs5;have HG5:=Lib.hid hg5;have HOWN5:=Lib.hid (HOWN.out.of_new hb5);have HB5:=Lib.hid (below_next HB2.out hb5);clear hs5 hg5 hb5)
    | (go_at_call 86;refine (SampleO_any g seed _ L many _ HS5.out HOWN5.out (by have:=HOB.out;omega)).mono ?_;rintro e w6 ⟨v6,rfl,hi6,hk6,hq6⟩;have HI6:=Lib.hid hi6;have HQ6:=Lib.hid hq6;have HK6:=Lib.hid hk6;clear hi6 hk6 hq6))
   go_ret
   have hbl:=Kept.to_below HB5.out HK6.out HB5.out.size (fun k hk e=>by have h1:=HG5.out;have h2:=HB2.out.size;omega)
   have hin:=HI6.out
   rw [← HLE.out] at hin
   exact ⟨_,rfl,hin,hbl,fun q hq=>⟨Nat.le_trans HB5.out.size (HQ6.out q hq).1,(HQ6.out q hq).2⟩⟩
end Go.Proofs.YtnohglkilpnjhaaGreatDoor
namespace Go.Proofs.YtnohglkilpnjhaaGreatDoor
open Go.RowKit
structure OrgL where
 imgs:List (List UInt8 × List BlobL)
 conts:List (BlobL × List UInt8)
 tab:TabL
def OrgL.zero:OrgL:=⟨[],[],[]⟩
def imgAt (S:OrgL) (d:List UInt8):Option (List BlobL):=(S.imgs.find? fun p=>decide (p.1 = d)).map (·.2)
def contIn (cs:List (BlobL × List UInt8)) (d:List UInt8):Option (BlobL × List UInt8):=cs.find? fun p=>decide (p.1.dig = d)
def contAt (S:OrgL) (d:List UInt8):Option (BlobL × List UInt8):=contIn S.conts d
def addC (cs:List (BlobL × List UInt8)) (p:BlobL × List UInt8):List (BlobL × List UInt8):=if (contIn cs p.1.dig).isSome then cs else cs ++ [p]
def layersOk (k:Int) (ls:List (List UInt8)):Bool:=ls.all fun b=>mrightB b.length k
def blobsL (k:Int) (ls:List (List UInt8)):List BlobL:=ls.map fun b=>(blobE b k).1
def contsL (k:Int) (ls:List (List UInt8)):List (BlobL × List UInt8):=ls.map fun b=>((blobE b k).1,b)
def pubL (S:OrgL) (ls:List (List UInt8)) (k:Int):OrgL × List UInt8 × Int:=
 if layersOk k ls = true then
  if encGE (blobsL k ls) = 0 then
   if (imgAt S (nameL (blobsL k ls))).isSome then (S,nameL (blobsL k ls),0)
   else if 64 ≤ S.imgs.length then (S,dig0,3)
   else ({ S with imgs:=S.imgs ++ [(nameL (blobsL k ls),blobsL k ls)],conts:=(contsL k ls).foldl addC S.conts },nameL (blobsL k ls),0)
  else (S,dig0,encGE (blobsL k ls))
 else (S,dig0,1)
def mk0 (k:Int) (d:List UInt8):MsgL:=⟨k,d,0,[],[],[],[],false⟩
def msgN:MsgL:=mk0 0 dig0
def tellL (S:OrgL) (d:List UInt8):MsgL:=match imgAt S d with
 | none=>mk0 11 d
 | some xs=>{ mk0 10 d with bytes:=(encG xs).getD [] }
def chokeL (d:List UInt8) (i:Int):MsgL:={ mk0 5 d with piece:=i }
def giveM (d:List UInt8) (x:BlobL) (b:List UInt8) (i:Int):MsgL:=
 { mk0 4 d with piece:=i,bytes:=(b.drop (spanZ x.size x.piece i).1.toNat).take (spanZ x.size x.piece i).2.1.toNat,proof:=(proofE (leavesL b x.piece.toNat) i).1 }
def giveL (S:OrgL) (d:List UInt8) (i:Int):MsgL:=match contAt S d with
 | none=>chokeL d i
 | some p=>if (spanZ p.1.size p.1.piece i).2.2 = 0 then giveM d p.1 p.2 i else chokeL d i
def annS (S:OrgL) (most each life:Int) (d:List UInt8) (id now:Int) (seed:Bool):OrgL:={ S with tab:=(annT most each S.tab d id now life seed).1 }
def askS (S:OrgL) (d:List UInt8) (id:Int) (seed:Nat):MsgL:={ mk0 7 d with ids:=sampleL seed (othersL (peersT d S.tab) id) 8 }
def takeOk (id now:Int) (m:MsgL):Bool:=decide (1 ≤ id∧id ≤ 65536) && (decide (0 ≤ now∧now ≤ 1099511627776) && wrightB m)
def takeO (S:OrgL) (most each life:Int) (id now:Int) (m:MsgL) (seed:Nat):OrgL × MsgL × Bool × Int:=
 if takeOk id now m = true then
  if m.kind = 9 then (S,tellL S m.hash,true,0)
  else if m.kind = 3 then (S,giveL S m.hash m.piece,true,0)
  else if m.kind = 6 then (annS S most each life m.hash id now m.seed,askS (annS S most each life m.hash id now m.seed) m.hash id seed,true,0)
  else (S,msgN,false,0)
 else (S,msgN,false,1)
def tickL (S:OrgL) (now:Int):OrgL × Int:=({ S with tab:=(expT S.tab now).1 },(expT S.tab now).2.2)
def contOk (p:BlobL × List UInt8):Prop:=mrightB p.2.length p.1.piece = true∧p.1 = (blobE p.2 p.1.piece).1
structure ImgOk (p:List UInt8 × List BlobL):Prop where
 enc:encGE p.2 = 0
 name:nameL p.2 = p.1
 ok:∀ x ∈ p.2,x.ok
structure OrgOk (most each:Int) (S:OrgL):Prop where
 tab:TabOk most each S.tab
 imgs:∀ p ∈ S.imgs,ImgOk p
 names:S.imgs.Pairwise (fun p q=>p.1 ≠ q.1)
 few:S.imgs.length ≤ 64
 conts:∀ p ∈ S.conts,contOk p
 digs:S.conts.Pairwise (fun p q=>p.1.dig ≠ q.1.dig)
 cfew:S.conts.length ≤ 16 * S.imgs.length
theorem nameL_len (l:List BlobL):(nameL l).length = 32:=by
 unfold nameL;split
 ·exact sumL_len _
 ·rfl
theorem ImgOk.len {p:List UInt8 × List BlobL} (h:ImgOk p):p.1.length = 32:=by rw [← h.name];exact nameL_len _
theorem ImgOk.image {p:List UInt8 × List BlobL} (h:ImgOk p):imageE p.2 = 0:=by
 have:=h.enc
 unfold encGE at this
 split at this
 ·assumption
 ·assumption
theorem image_few {l:List BlobL} (h:imageE l = 0):1 ≤ l.length∧l.length ≤ 16:=by
 unfold imageE at h
 split at h
 ·omega
 ·rename_i hn
  omega
theorem encGE_image {l:List BlobL} (h:encGE l = 0):imageE l = 0:=by
 unfold encGE at h
 split at h
 ·assumption
 ·assumption
theorem contOk.ok {p:BlobL × List UInt8} (h:contOk p):p.1.ok:=by rw [h.2];exact blobE_ok _ _
theorem contOk.is {p:BlobL × List UInt8} (h:contOk p):p.1 = ⟨sumL p.2,p.2.length,p.1.piece,rootL (leavesL p.2 p.1.piece.toNat)⟩:=by
 have h2:=h.2
 unfold blobE at h2
 rw [if_pos h.1] at h2
 exact h2
theorem contOk.mk' {b:List UInt8} {k:Int} (h:mrightB b.length k = true):contOk ((blobE b k).1,b):=by
 unfold contOk blobE
 simp only [if_pos h]
 exact ⟨h,trivial⟩
theorem contOk.size {p:BlobL × List UInt8} (h:contOk p):p.1.size = p.2.length:=by rw [h.is]
theorem OrgOk.zero {most each:Int} (h:0 ≤ most):OrgOk most each OrgL.zero:=
 ⟨TabOk.nil h,fun p hp=>(by cases hp),List.Pairwise.nil,by simp [OrgL.zero],fun p hp=>(by cases hp),List.Pairwise.nil,by simp [OrgL.zero]⟩
theorem contIn_none {cs:List (BlobL × List UInt8)} {d:List UInt8}:contIn cs d = none↔∀ p ∈ cs,p.1.dig ≠ d:=by
 unfold contIn;rw [List.find?_eq_none];simp
theorem contIn_mem {cs:List (BlobL × List UInt8)} {d:List UInt8} {p:BlobL × List UInt8} (h:contIn cs d = some p):p ∈ cs∧p.1.dig = d:=
 ⟨List.mem_of_find?_eq_some h,by have:=List.find?_some h;simpa using this⟩
theorem imgAt_none {S:OrgL} {d:List UInt8}:imgAt S d = none↔∀ p ∈ S.imgs,p.1 ≠ d:=by
 unfold imgAt;rw [Option.map_eq_none_iff,List.find?_eq_none];simp
theorem imgAt_mem {S:OrgL} {d:List UInt8} {xs:List BlobL} (h:imgAt S d = some xs):(d,xs) ∈ S.imgs:=by
 unfold imgAt at h
 obtain ⟨p,hp,rfl⟩:=Option.map_eq_some_iff.1 h
 have h1:=List.mem_of_find?_eq_some hp
 have h2:=List.find?_some hp
 obtain rfl:p.1 = d:=by simpa using h2
 exact h1
theorem addC_ok {cs:List (BlobL × List UInt8)} {p:BlobL × List UInt8} (h:∀ q ∈ cs,contOk q) (hp:contOk p):∀ q ∈ addC cs p,contOk q:=by
 unfold addC;split
 ·exact h
 ·intro q hq
  rcases List.mem_append.1 hq with hq | hq
  ·exact h q hq
  ·rw [List.mem_singleton.1 hq];exact hp
theorem addC_digs {cs:List (BlobL × List UInt8)} {p:BlobL × List UInt8} (h:cs.Pairwise (fun p q=>p.1.dig ≠ q.1.dig)):(addC cs p).Pairwise (fun p q=>p.1.dig ≠ q.1.dig):=by
 unfold addC;split
 ·exact h
 ·rename_i hn
  refine List.pairwise_append.2 ⟨h,List.pairwise_singleton _ _,fun a ha b hb=>?_⟩
  rw [List.mem_singleton.1 hb]
  exact contIn_none.1 (by simpa using hn) a ha
theorem addC_len (cs:List (BlobL × List UInt8)) (p:BlobL × List UInt8):(addC cs p).length ≤ cs.length + 1:=by
 unfold addC;split
 ·omega
 ·simp
theorem addC_sub {cs:List (BlobL × List UInt8)} {p q:BlobL × List UInt8} (h:q ∈ cs):q ∈ addC cs p:=by
 unfold addC;split
 ·exact h
 ·exact List.mem_append_left _ h
theorem addCs_ok:∀ (l cs:List (BlobL × List UInt8)),(∀ q ∈ cs,contOk q)→(∀ q ∈ l,contOk q)→cs.Pairwise (fun p q=>p.1.dig ≠ q.1.dig) →
  (∀ q ∈ l.foldl addC cs,contOk q)∧(l.foldl addC cs).Pairwise (fun p q=>p.1.dig ≠ q.1.dig)∧(l.foldl addC cs).length ≤ cs.length + l.length∧∀ q ∈ cs,q ∈ l.foldl addC cs
 | [],cs,h1,_,h3=>⟨h1,h3,by simp,fun q hq=>hq⟩
 | p :: l,cs,h1,h2,h3=>by
  obtain ⟨a,b,c,d⟩:=addCs_ok l (addC cs p) (addC_ok h1 (h2 p (by simp))) (fun q hq=>h2 q (by simp [hq])) (addC_digs h3)
  have:=addC_len cs p
  exact ⟨a,b,by rw [List.foldl_cons,List.length_cons];omega,fun q hq=>d q (addC_sub hq)⟩
theorem contsL_ok {k:Int} {ls:List (List UInt8)} (h:layersOk k ls = true):∀ q ∈ contsL k ls,contOk q:=fun q hq=>by
 obtain ⟨b,hb,rfl⟩:=List.mem_map.1 hq
 exact contOk.mk' (List.all_eq_true.1 h b hb)
theorem blobsL_ok (k:Int) (ls:List (List UInt8)):∀ x ∈ blobsL k ls,x.ok:=fun x hx=>by
 obtain ⟨b,_,rfl⟩:=List.mem_map.1 hx
 exact blobE_ok _ _
theorem OrgOk.pub {most each:Int} {S:OrgL} (h:OrgOk most each S) (ls:List (List UInt8)) (k:Int):OrgOk most each (pubL S ls k).1:=by
 unfold pubL
 split
 ·rename_i hl
  split
  ·rename_i he
   split
   ·exact h
   ·rename_i hn
    split
    ·exact h
    ·rename_i h64
     obtain ⟨a,b,c,d⟩:=addCs_ok (contsL k ls) S.conts h.conts (contsL_ok hl) h.digs
     have hf:=image_few (encGE_image he)
     have hbl:(blobsL k ls).length = ls.length:=by simp [blobsL]
     have hcl:(contsL k ls).length = ls.length:=by simp [contsL]
     refine ⟨h.tab,fun p hp=>?_,?_,?_,a,b,?_⟩
     ·rcases List.mem_append.1 hp with hp | hp
      ·exact h.imgs p hp
      ·rw [List.mem_singleton.1 hp];exact ⟨he,rfl,blobsL_ok k ls⟩
     ·refine List.pairwise_append.2 ⟨h.names,List.pairwise_singleton _ _,fun x hx y hy=>?_⟩
      rw [List.mem_singleton.1 hy]
      exact imgAt_none.1 (by simpa using hn) x hx
     ·show (S.imgs ++ [_]).length ≤ 64
      rw [List.length_append,List.length_singleton];omega
     ·have:=h.cfew
      show ((contsL k ls).foldl addC S.conts).length ≤ 16 * (S.imgs ++ [_]).length
      rw [List.length_append,List.length_singleton];omega
  ·exact h
 ·exact h
theorem OrgOk.with_tab {most each:Int} {S:OrgL} (h:OrgOk most each S) {T:TabL} (hT:TabOk most each T):OrgOk most each { S with tab:=T }:=
 ⟨hT,h.imgs,h.names,h.few,h.conts,h.digs,h.cfew⟩
theorem OrgOk.ann {most each:Int} {S:OrgL} (h:OrgOk most each S) (hm:1 ≤ most) (he:1 ≤ each) {d:List UInt8} (hd:d.length = 32) (life id now:Int) (seed:Bool):OrgOk most each (annS S most each life d id now seed):=
 h.with_tab (h.tab.ann hm he hd id now life seed)
theorem OrgOk.take {most each:Int} {S:OrgL} (h:OrgOk most each S) (hm:1 ≤ most) (he:1 ≤ each) {m:MsgL} (hd:m.hash.length = 32) (life id now:Int) (seed:Nat):OrgOk most each (takeO S most each life id now m seed).1:=by
 unfold takeO
 split
 ·split
  ·exact h
  ·split
   ·exact h
   ·split
    ·exact h.ann hm he hd _ _ _ _
    ·exact h
 ·exact h
theorem OrgOk.tick {most each:Int} {S:OrgL} (h:OrgOk most each S) (now:Int):OrgOk most each (tickL S now).1:=h.with_tab (h.tab.exp now)
theorem give_bounds {p:BlobL × List UInt8} (hc:contOk p) {i:Int} (h:(spanZ p.1.size p.1.piece i).2.2 = 0) :
  ∃ lo len:Nat,(spanZ p.1.size p.1.piece i).1 = (lo:Int)∧(spanZ p.1.size p.1.piece i).2.1 = (len:Int)∧lo + len ≤ p.2.length∧1 ≤ len∧len ≤ 16384∧p.2.length ≤ 1048576∧0 ≤ i∧i < mcountB p.1.size p.1.piece:=by
 have hs:=hc.size
 unfold spanZ at h ⊢
 split at h
 ·simp at h
 ·rename_i hn
  rw [if_neg hn]
  obtain ⟨h1,h2,h3,h4,h5⟩:=span_parts (n:=p.1.size) (k:=p.1.piece) (i:=i) (by omega) (by omega)
  obtain ⟨K,hK⟩:∃ K,i * p.1.piece = K:=⟨_,rfl⟩
  rw [hK] at h1 h2 ⊢
  refine ⟨K.toNat,(min p.1.piece (p.1.size - K)).toNat,?_,?_,?_,?_,?_,?_,?_,?_⟩
  all_goals first | omega | (dsimp only;omega)
theorem spanZ_zero (i:Int):(spanZ 0 0 i).2.2 = 1:=by
 have h0:mcountB 0 0 = 0:=by decide
 unfold spanZ
 rw [h0,if_pos (by omega)]
theorem giveL_some {S:OrgL} {d:List UInt8} {i:Int} {p:BlobL × List UInt8} (h:contAt S d = some p):giveL S d i = if (spanZ p.1.size p.1.piece i).2.2 = 0 then giveM d p.1 p.2 i else chokeL d i:=by unfold giveL;rw [h]
theorem giveL_none {S:OrgL} {d:List UInt8} {i:Int} (h:contAt S d = none):giveL S d i = chokeL d i:=by unfold giveL;rw [h]
end Go.Proofs.YtnohglkilpnjhaaGreatDoor
