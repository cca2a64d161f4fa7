/- Lemmas that the statement of this claim leans on; their own comments are taken out, for the size of the claim. No condition beyond what each lemma states. -/
import Derived.Test.YtnohglkilpnjhaaGreatDoorSc18
set_option linter.unusedVariables false
set_option linter.unusedSimpArgs false
set_option linter.unusedSectionVars false
namespace Go.Proofs.YtnohglkilpnjhaaGreatDoor
open Go.RowKit
set_option maxRecDepth 100000
theorem peer_till_set {w:World} {g:Nat} {p:PeerL} (h:RPeer.O w g p) (t:Int):RPeer.O (w.setCell ⟨g,1,none⟩ (.int .i64 t)) g ⟨p.id,t,p.seed⟩:=by
 refine ⟨?_,trivial⟩
 obtain ⟨hlt,hk⟩:=Array.getElem?_eq_some_iff.1 h.1
 show (w.heap.modify g _)[g]? = _
 rw [Array.getElem?_eq_getElem (by rw [Array.size_modify];exact hlt),Array.getElem_modify_self,hk]
 rfl
theorem peer_seed_set {w:World} {g:Nat} {p:PeerL} (h:RPeer.O w g p) (b:Bool):RPeer.O (w.setCell ⟨g,2,none⟩ (.bool b)) g ⟨p.id,p.till,b⟩:=by
 refine ⟨?_,trivial⟩
 obtain ⟨hlt,hk⟩:=Array.getElem?_eq_some_iff.1 h.1
 show (w.heap.modify g _)[g]? = _
 rw [Array.getElem?_eq_getElem (by rw [Array.size_modify];exact hlt),Array.getElem_modify_self,hk]
 rfl
set_option maxHeartbeats 6400000 in
theorem RWith_any (v:Value) (l:List PeerL) (p:PeerL) (w:World) (hl:RPeer.Row w v l) (hr:Rising PeerL.id l) (hlen:l.length ≤ 1000) :
  Calls Tryz.prog 149 #[v,RPeer.V p] w fun e w'=>∃ v',e = .returned v'∧RPeer.Own w' w.heap.size v' (insK PeerL.id (mergeP p l) l)∧Below w.heap.size w w':=by
 obtain ⟨a,c,hv⟩:=hl.len
 subst hv
 obtain ⟨W,hW⟩:∃ W,w.alloc (.cells (RPeer.cells p).toArray 137) = W:=⟨_,rfl⟩
 have ho:RPeer.O W w.heap.size p:=by rw [← hW];exact RecT.o_new w (RPeer_ok p)
 have hb:Below w.heap.size w W:=by rw [← hW];exact (Below.refl _ w).alloc (Nat.le_refl _) _
 have HL:=Lib.hid hl
 have HR:=Lib.hid hr
 have HO:=Lib.hid ho
 have HB:=Lib.hid hb
 have HW:=Lib.hid (show w.alloc (.cells #[.int .i64 p.id,.int .i64 p.till,.bool p.seed] 137) = W from hW)
 clear hl hr ho hb hW
 show Calls Tryz.prog 149 #[.slice a l.length c,.agg #[.int .i64 p.id,.int .i64 p.till,.bool p.seed]] w _
 go_enter Tryz.func149,Tryz.ntmps149
 go_upto_region 1 with (fail)
 rw [HW.out]
 obtain ⟨g,hg⟩:∃ g,w.heap.size = g:=⟨_,rfl⟩
 have HG:=Lib.hid hg
 rw [hg] at HO HB ⊢
 clear hg
 go_wp2
 go_loopw [7] (fun iv W'=>∃ k:Nat,k ≤ l.length∧iv = .int .i64 (k:Int)∧RPeer.O W' g (mergeP p (l.take k))∧Below g w W') (fun iv _=>l.length - (intOf iv).toNat)
 case atStart=>exact ⟨0,Nat.zero_le _,rfl,HO.out,HB.out⟩
 case round=>
  obtain ⟨k,hk,rfl,hpo,hbr⟩:=hrel
  by_cases hlt:k < l.length
  ·have hki:(k:Int) < (l.length:Int):=by omega
   obtain ⟨b,off,c',hv,hbl,hat⟩:=HL.out.at_ (by omega)
   obtain ⟨rfl,rfl⟩:a = some ⟨b,off,none⟩∧c = c':=by cases hv;exact ⟨rfl,rfl⟩
   obtain ⟨q,hq⟩:∃ q,l[k]? = some q:=⟨_,List.getElem?_eq_getElem hlt⟩
   have hbg:b < g:=by rw [← HG.out];exact hbl
   have hA:RPeer.At wr b (off + k * 3) q:=⟨trivial,Nat.lt_trans hbg hpo.lt,fun j hj=>(hbr.cell (p:=⟨b,off + k * 3 + j,none⟩) hbg).trans ((hat k q hq).2.2 j hj)⟩
   have HST:=Lib.hid (mergeP_snoc p (l.take k) q)
   obtain ⟨P,hP⟩:∃ P,mergeP p (l.take k) = P:=⟨_,rfl⟩
   rw [hP] at HST hpo
   have HTK:=Lib.hid (take_snoc_at hq)
   have HPO:=Lib.hid hpo
   have HBR:=Lib.hid hbr
   have HA:=Lib.hid hA
   have HBG:=Lib.hid hbg
   have c1:=fun w' (h:Grew wr w')=>(Grew.cell h (peer_cells hA).1:w'.cell? ⟨b,off + k * 3,none⟩ = _)
   have c2:=fun w' (h:Grew wr w')=>Grew.cell h (RPeer_id hpo)
   clear hv hbl hat hq hP hpo hbr hA hbg
   go_upto_region 6 with (fail)
   by_cases he:q.id = P.id
   ·have e1:(q.id == P.id) = true:=beq_iff_eq.2 he
    have hst:=HST.out
    rw [if_pos he] at hst
    have HS2:=Lib.hid hst
    clear hst he
    refine wp_region_grew (by kernel_rfl) (by kernel_rfl) ?_
    repeat (first
     | (go_big_quiet_want;(with_reducible apply quiet_load_at (ty:=31) (x:=.tmp _));rfl;rfl;assumption;go_simp;go_big_quiet_on)
     | (go_big_quiet_want;apply quiet_val;(intro w' hw';go_simp;first | done | rfl);go_simp;go_big_quiet_on)
     | (go_big_quiet_skip))
    refine wpQuiet_nil ?_
    intro w5 hw5
    have HPO5:=Lib.hid (HPO.out.of_new hw5)
    have HA5:=Lib.hid (HA.out.of_new hw5)
    have HB5:=Lib.hid (below_next' HBR.out hw5 (Nat.le_of_lt HPO.out.lt))
    have c3:=fun w' (h:Grew w5 w')=>Grew.cell h (RPeer_till HPO5.out)
    have c4:=fun w' (h:Grew w5 w')=>(Grew.cell h (peer_cells HA5.out).2.1:w'.cell? ⟨b,off + k * 3 + 1,none⟩ = _)
    clear c1 c2 hw5
    by_cases hmx:P.till < q.till
    case' pos=>skip
    case' neg=>skip
    all_goals
     go_upto_region 7 with (fail)
     refine wp_region_grew_tail 9 (by kernel_rfl) (by kernel_rfl) ?_
     simp only [List.take_succ_cons,List.take_zero,List.drop_succ_cons,List.drop_zero]
     repeat (first
      | (go_big_quiet_want;(with_reducible apply quiet_load_at (ty:=31) (x:=.tmp _));rfl;rfl;assumption;go_simp;go_big_quiet_on)
      | (go_big_quiet_want;apply quiet_val;(intro w' hw';go_simp;first | done | rfl);go_simp;go_big_quiet_on)
      | (go_big_quiet_skip))
     refine wpQuiet_nil ?_
     intro w6 hw6
     have HPO6:=Lib.hid (HPO5.out.of_new hw6)
     have HA6:=Lib.hid (HA5.out.of_new hw6)
     have HB6:=Lib.hid (below_next' HB5.out hw6 (Nat.le_of_lt HPO5.out.lt))
     have hf:=HPO6.out.free 1
     have hc6:=RPeer_till HPO6.out
     clear c3 c4 hw6
     go_upto_region 8 with (fail)
     generalize hW7:World.setCell w6 _ _ = w7
     obtain ⟨M,hpo7,hA7,hb7,hM⟩:∃ M,RPeer.O w7 g ⟨P.id,M,P.seed⟩∧RPeer.At w7 b (off + k * 3) q∧Below g w w7∧max P.till q.till = M:=by
      subst hW7
      exact ⟨_,peer_till_set HPO6.out _,HA6.out.of_block (Below.heap_setCell _ _ _ _ (Nat.ne_of_lt HBG.out)),HB6.out.setCell (p:=⟨g,1,none⟩) (Nat.le_refl _) _,by omega⟩
     have hst:=HS2.out
     rw [hM] at hst
     have HPO7:=Lib.hid hpo7
     have HB7:=Lib.hid hb7
     have c5:=RPeer_seed hpo7
     have c6:w7.cell? ⟨b,off + k * 3 + 2,none⟩ = _:=(peer_cells hA7).2.2
     have hf2:=hpo7.free 2
     clear hW7 hM hpo7 hA7 hb7 hf hc6 hmx HS2
     dsimp only at c5
     have hsd:P.seed = true∨P.seed = false:=by cases P.seed <;> simp
     rcases hsd with hB | hB
     ·rw [hB] at c5 hst HPO7
      clear hB
      have HS3:=Lib.hid hst
      clear hst
      go_wp2
      generalize hW8:World.setCell w7 _ _ = w8
      obtain ⟨hpo8,hb8⟩:RPeer.O w8 g (mergeP p (l.take (k + 1)))∧Below g w w8:=by
       subst hW8
       rw [HTK.out,HS3.out]
       exact ⟨peer_seed_set HPO7.out _,HB7.out.setCell (p:=⟨g,2,none⟩) (Nat.le_refl _) _⟩
      have HPO8:=Lib.hid hpo8
      have HB8:=Lib.hid hb8
      clear hW8 hpo8 hb8 c5 c6 hf2
      go_roundw
      case rel=>exact ⟨k + 1,by omega,by go_num,HPO8.out,HB8.out⟩
      case measure=>simp [intOf];omega
     ·rw [hB] at c5 hst HPO7
      clear hB
      have HS3:=Lib.hid hst
      clear hst
      go_wp2
      generalize hW8:World.setCell w7 _ _ = w8
      obtain ⟨hpo8,hb8⟩:RPeer.O w8 g (mergeP p (l.take (k + 1)))∧Below g w w8:=by
       subst hW8
       rw [HTK.out,HS3.out]
       exact ⟨peer_seed_set HPO7.out _,HB7.out.setCell (p:=⟨g,2,none⟩) (Nat.le_refl _) _⟩
      have HPO8:=Lib.hid hpo8
      have HB8:=Lib.hid hb8
      clear hW8 hpo8 hb8 c5 c6 hf2
      go_roundw
      case rel=>exact ⟨k + 1,by omega,by go_num,HPO8.out,HB8.out⟩
      case measure=>simp [intOf];omega
   ·have e1:(q.id == P.id) = false:=beq_eq_false_iff_ne.2 he
    have hst:=HST.out
    rw [if_neg he] at hst
    have HS2:=Lib.hid hst
    clear hst he
    refine wp_region_grew (by kernel_rfl) (by kernel_rfl) ?_
    repeat (first
     | (go_big_quiet_want;(with_reducible apply quiet_load_at (ty:=31) (x:=.tmp _));rfl;rfl;assumption;go_simp;go_big_quiet_on)
     | (go_big_quiet_want;apply quiet_val;(intro w' hw';go_simp;first | done | rfl);go_simp;go_big_quiet_on)
     | (go_big_quiet_skip))
    refine wpQuiet_nil ?_
    intro w5 hw5
    have HPO5:=Lib.hid (HPO.out.of_new hw5)
    have HB5:=Lib.hid (below_next' HBR.out hw5 (Nat.le_of_lt HPO.out.lt))
    clear c1 c2 hw5
    go_wp2
    go_roundw
    case rel=>exact ⟨k + 1,by omega,by go_num,by rw [HTK.out,HS2.out];exact HPO5.out,HB5.out⟩
    case measure=>simp [intOf];omega
  ·obtain rfl:k = l.length:=by omega
   rw [List.take_length] at hpo
   obtain ⟨P,hP⟩:∃ P,mergeP p l = P:=⟨_,rfl⟩
   obtain ⟨n,hn⟩:∃ n,l.length = n:=⟨_,rfl⟩
   have hnb:n ≤ 1000:=by omega
   have HP:=Lib.hid hP
   have HN:=Lib.hid hn
   rw [hP] at hpo
   rw [hn]
   have hki:¬ (n:Int) < (n:Int):=by omega
   have HPO:=Lib.hid hpo
   have HBR:=Lib.hid hbr
   clear hP hn hpo hbr hk hlt
   go_wp2
   go_loopw [5,6,8] (fun ov pv iv W'=>∃ k:Nat,k ≤ n∧iv = .int .i64 (k:Int)∧pv = .bool (putW P (l.take k))∧RPeer.Own W' (g + 1) ov (outW P (l.take k))∧RPeer.O W' g P∧Below g w W') (fun _ _ iv _=>n - (intOf iv).toNat)
   case atStart=>exact ⟨0,Nat.zero_le _,rfl,rfl,RecT.Own.nil _ _,HPO.out,HBR.out⟩
   case round=>
    rename World=>w1
    obtain ⟨k,hk,rfl,rfl,hown,hpo,hbr⟩:=hrel
    obtain ⟨oa,oc,hv⟩:=hown.row.len
    subst hv
    by_cases hlt:k < n
    ·have hki:(k:Int) < (n:Int):=by omega
     obtain ⟨b,off,c',hv,hbl,hat⟩:=HL.out.at_ (by rw [HN.out];omega)
     rw [HN.out] at hv
     obtain ⟨rfl,rfl⟩:a = some ⟨b,off,none⟩∧c = c':=by cases hv;exact ⟨rfl,rfl⟩
     obtain ⟨x,hx⟩:∃ q,l[k]? = some q:=⟨_,List.getElem?_eq_getElem (by rw [HN.out];exact hlt)⟩
     have hbg:b < g:=by rw [← HG.out];exact hbl
     have hA:RPeer.At w1 b (off + k * 3) x:=⟨trivial,Nat.lt_trans hbg hpo.lt,fun j hj=>(hbr.cell (p:=⟨b,off + k * 3 + j,none⟩) hbg).trans ((hat k x hx).2.2 j hj)⟩
     have htk:=take_snoc_at hx
     have hrk:Rising PeerL.id (l.take k ++ [x]):=by rw [← htk];exact List.Pairwise.sublist (List.take_sublist _ _) HR.out
     have hout:=outW_snoc (p:=P) hrk
     have hput:=putW_snoc P (l.take k) x
     have hol:=outW_len (p:=P) (List.Pairwise.sublist (List.take_sublist k _) HR.out)
     rw [List.length_take,HN.out] at hol
     rw [← htk] at hout hput
     obtain ⟨O,hO⟩:∃ O,outW P (l.take k) = O:=⟨_,rfl⟩
     rw [hO] at hout hown hol ⊢
     have hol2:O.length ≤ 1001:=by have:=HN.out;omega
     have HOL:=Lib.hid hol2
     have HOWN:=Lib.hid hown
     have HPO:=Lib.hid hpo
     have HBR:=Lib.hid hbr
     have HA:=Lib.hid hA
     have HTK:=Lib.hid htk
     have HBG:=Lib.hid hbg
     clear hv hbl hat hx hbg hA htk hrk hO hol hol2 hown hpo hbr
     have c1:=fun w' (h:Grew w1 w')=>(Grew.cell h (peer_cells HA.out).1:w'.cell? ⟨b,off + k * 3,none⟩ = _)
     have c2:=fun w' (h:Grew w1 w')=>Grew.cell h (RPeer_id HPO.out)
     go_upto_region 12 with (fail)
     by_cases hap:putW P (l.take k) = false∧P.id ≤ x.id
     case' pos=>
      obtain ⟨h1,h2⟩:=hap
      rw [if_pos ⟨h1,h2⟩] at hout
      have hp2:putW P (l.take (k + 1)) = true:=by rw [hput,h1];simp [h2]
      have HOUT:=Lib.hid hout
      have HPUT:=Lib.hid hp2
      clear hout hp2 hput
      rw [h1]
      clear h1
      refine wp_region_grew (by kernel_rfl) (by kernel_rfl) ?_
      repeat (first
       | (go_big_quiet_want;(with_reducible apply quiet_load_at (ty:=31) (x:=.tmp _));rfl;rfl;assumption;go_simp;go_big_quiet_on)
       | (go_big_quiet_want;apply quiet_val;(intro w' hw';go_simp;first | done | rfl);go_simp;go_big_quiet_on)
       | (go_big_quiet_skip))
      refine wpQuiet_nil ?_
      intro w5 hw5
      have HPO5:=Lib.hid (HPO.out.of_new hw5)
      have HA5:=Lib.hid (HA.out.of_new hw5)
      have HB5:=Lib.hid (below_next' HBR.out hw5 (Nat.le_of_lt HPO.out.lt))
      have HOWN5:=Lib.hid (HOWN.out.of_new hw5)
      clear c1 c2 hw5
      go_upto_region 15 with (first
       | ((with_reducible refine wpList_plain (o:=⟨some 61,Op.load _ _,_,_,_,_⟩) rfl fun K hK=>?_);(refine HPO5.out.at_.wp rfl rfl (hK _ _ ?_)))
       | ((with_reducible refine wpList_plain (o:=⟨some 62,Op.buildSlice _ _ _,_,_,_,_⟩) rfl fun K hK=>?_);(refine RPeer.wp_build1 Tryz.underlying71 (.tmp 61) (RPeer_ok P) rfl rfl fun w6 ho6 hb6 hs6=>hK _ _ ?_);have HO6:=Lib.hid ho6.row;have HB6:=Lib.hid hb6;clear ho6 hb6 hs6)
       | ((with_reducible refine wpList_plain (o:=⟨some 63,Op.call _,_,_,_,_⟩) rfl fun K hK=>?_);(refine (HOWN5.out.of_new HB6.out).app Tryz.underlying71 (.tmp 60) (.tmp 62) rfl rfl rfl HO6.out (by have:=HOL.out;simp;omega) (by have:=HPO5.out.lt;have:=HB6.out.size;omega) fun v7 wz ho7 hg7 hu7=>hK _ _ ?_);have HO7:=Lib.hid ho7;have HPO7:=Lib.hid ((HPO5.out.of_new HB6.out).of_block (hg7.block _ (HPO5.out.of_new HB6.out).lt (fun e=>by have:=(HOWN5.out.lt g e.symm).1;omega)));have HB7:=Lib.hid ((below_next' HB5.out HB6.out (Nat.le_of_lt HPO5.out.lt)).grown hg7 (Nat.le_of_lt (HPO5.out.of_new HB6.out).lt) (fun k e=>by have:=(HOWN5.out.lt k e).1;omega));have HA7:=Lib.hid ((HA5.out.of_new HB6.out).of_block (hg7.block _ (HA5.out.of_new HB6.out).2.1 (fun e=>by have:=(HOWN5.out.lt b e.symm).1;have:=HBG.out;omega)));clear ho7 hg7 hu7))
      obtain ⟨a7,c7,hv7⟩:=HO7.out.row.len
      subst hv7
      obtain ⟨O1,hO1⟩:∃ O1,O ++ [P] = O1:=⟨_,rfl⟩
      have hol1:O1.length ≤ 1002:=by rw [← hO1];have:=HOL.out;simp;omega
      rw [hO1] at HO7 HOUT ⊢
      have HO1:=HO7
      have HP1:=HPO7
      have HA1:=HA7
      have HB1:=HB7
      have HOL1:=Lib.hid hol1
      clear hO1 hol1 h2 HO6 HB6 HO7 HPO7 HA7 HB7 HPO5 HA5 HB5 HOWN5
     case' neg=>
      have hpv:putW P (l.take k) = true∨(putW P (l.take k) = false∧¬ P.id ≤ x.id):=by
       cases hq:putW P (l.take k) with
       | true=>exact .inl rfl
       | false=>exact .inr ⟨rfl,fun h=>hap ⟨hq,h⟩⟩
      rw [if_neg hap] at hout
      have HOUT:=Lib.hid hout
      clear hout hap
      rcases hpv with hpv | ⟨hpv,hnx⟩
      case' inl=>
       have hp2:putW P (l.take (k + 1)) = true:=by rw [hput,hpv];simp
       have HPUT:=Lib.hid hp2
       rw [hpv]
       clear hp2 hput hpv
      case' inr=>
       have hp2:putW P (l.take (k + 1)) = false:=by rw [hput,hpv];simp;omega
       have HPUT:=Lib.hid hp2
       rw [hpv]
       clear hp2 hput hpv
      all_goals
       refine wp_region_grew (by kernel_rfl) (by kernel_rfl) ?_
       repeat (first
        | (go_big_quiet_want;(with_reducible apply quiet_load_at (ty:=31) (x:=.tmp _));rfl;rfl;assumption;go_simp;go_big_quiet_on)
        | (go_big_quiet_want;apply quiet_val;(intro w' hw';go_simp;first | done | rfl);go_simp;go_big_quiet_on)
        | (go_big_quiet_skip))
       refine wpQuiet_nil ?_
       intro wz hwz
       have HP1:=Lib.hid (HPO.out.of_new hwz)
       have HA1:=Lib.hid (HA.out.of_new hwz)
       have HB1:=Lib.hid (below_next' HBR.out hwz (Nat.le_of_lt HPO.out.lt))
       have HO1:=Lib.hid (HOWN.out.of_new hwz)
       have hol1:O.length ≤ 1002:=by have:=HOL.out;omega
       have HOL1:=Lib.hid hol1
       clear c1 c2 hwz hol1
       obtain ⟨O1,hO1⟩:∃ O1,O = O1:=⟨_,rfl⟩
       rw [hO1] at HO1 HOUT HOL1 ⊢
       clear hO1
       go_upto_region 15 with (fail)
     all_goals
      have c1:=fun w' (h:Grew wz w')=>(Grew.cell h (peer_cells HA1.out).1:w'.cell? ⟨b,off + k * 3,none⟩ = _)
      have c2:=fun w' (h:Grew wz w')=>Grew.cell h (RPeer_id HP1.out)
      by_cases he:x.id = P.id
      ·have e1:(x.id != P.id) = false:=by simp [he]
       have hout:=HOUT.out
       rw [if_pos he,List.append_nil] at hout
       have HOUT2:=Lib.hid hout
       clear he hout
       refine wp_region_grew (by kernel_rfl) (by kernel_rfl) ?_
       repeat (first
        | (go_big_quiet_want;(with_reducible apply quiet_load_at (ty:=31) (x:=.tmp _));rfl;rfl;assumption;go_simp;go_big_quiet_on)
        | (go_big_quiet_want;apply quiet_val;(intro w' hw';go_simp;first | done | rfl);go_simp;go_big_quiet_on)
        | (go_big_quiet_skip))
       refine wpQuiet_nil ?_
       intro w8 hw8
       have HP8:=Lib.hid (HP1.out.of_new hw8)
       have HO8:=Lib.hid (HO1.out.of_new hw8)
       have HB8:=Lib.hid (below_next' HB1.out hw8 (Nat.le_of_lt HP1.out.lt))
       clear c1 c2 hw8
       go_wp2
       go_roundw
       case rel=>exact ⟨k + 1,by omega,by go_num,by rw [HPUT.out],by rw [HOUT2.out];exact HO8.out,HP8.out,HB8.out⟩
       case measure=>simp [intOf];omega
      ·have e1:(x.id != P.id) = true:=by simp [he]
       have hout:=HOUT.out
       rw [if_neg he] at hout
       have HOUT2:=Lib.hid hout
       clear he hout
       refine wp_region_grew (by kernel_rfl) (by kernel_rfl) ?_
       repeat (first
        | (go_big_quiet_want;(with_reducible apply quiet_load_at (ty:=31) (x:=.tmp _));rfl;rfl;assumption;go_simp;go_big_quiet_on)
        | (go_big_quiet_want;apply quiet_val;(intro w' hw';go_simp;first | done | rfl);go_simp;go_big_quiet_on)
        | (go_big_quiet_skip))
       refine wpQuiet_nil ?_
       intro w8 hw8
       have HP8:=Lib.hid (HP1.out.of_new hw8)
       have HA8:=Lib.hid (HA1.out.of_new hw8)
       have HO8:=Lib.hid (HO1.out.of_new hw8)
       have HB8:=Lib.hid (below_next' HB1.out hw8 (Nat.le_of_lt HP1.out.lt))
       clear c1 c2 hw8
       go_wp2_with (first
        | ((with_reducible refine wpList_plain (o:=⟨some 76,Op.load _ _,_,_,_,_⟩) rfl fun K hK=>?_);(refine HA8.out.wp rfl rfl (hK _ _ ?_)))
        | ((with_reducible refine wpList_plain (o:=⟨some 77,Op.buildSlice _ _ _,_,_,_,_⟩) rfl fun K hK=>?_);(refine RPeer.wp_build1 Tryz.underlying71 (.tmp 76) (RPeer_ok x) rfl rfl fun w9 ho9 hb9 hs9=>hK _ _ ?_);have HO9:=Lib.hid ho9.row;have HB9:=Lib.hid hb9;clear ho9 hb9 hs9)
        | ((with_reducible refine wpList_plain (o:=⟨some 78,Op.call _,_,_,_,_⟩) rfl fun K hK=>?_);(refine (HO8.out.of_new HB9.out).app Tryz.underlying71 (.tmp 72) (.tmp 77) rfl rfl rfl HO9.out (by have:=HOL1.out;simp;omega) (by have:=HP8.out.lt;have:=HB9.out.size;omega) fun v10 w10 ho10 hg10 hu10=>hK _ _ ?_);have HO10:=Lib.hid ho10;have HP10:=Lib.hid ((HP8.out.of_new HB9.out).of_block (hg10.block _ (HP8.out.of_new HB9.out).lt (fun e=>by have:=(HO8.out.lt g e.symm).1;omega)));have HB10:=Lib.hid ((below_next' HB8.out HB9.out (Nat.le_of_lt HP8.out.lt)).grown hg10 (Nat.le_of_lt (HP8.out.of_new HB9.out).lt) (fun k e=>by have:=(HO8.out.lt k e).1;omega));clear ho10 hg10 hu10))
       go_roundw
       case rel=>exact ⟨k + 1,by omega,by go_num,by rw [HPUT.out],by rw [HOUT2.out];exact HO10.out,HP10.out,HB10.out⟩
       case measure=>simp [intOf];omega
    ·obtain rfl:k = n:=by omega
     have hki:¬ (k:Int) < (k:Int):=by omega
     have hend:=outW_end (p:=P) HR.out
     have htake:l.take k = l:=List.take_of_length_le (by rw [HN.out];exact Nat.le_refl _)
     rw [htake] at hown ⊢
     have hol:=outW_len (p:=P) HR.out
     have hol2:(outW P l).length ≤ 1001:=by rw [HN.out] at hol;have:=HN.out;omega
     obtain ⟨O,hO⟩:∃ O,outW P l = O:=⟨_,rfl⟩
     rw [hO] at hown hend hol2 ⊢
     have HOWN:=Lib.hid hown
     have HPO:=Lib.hid hpo
     have HBR:=Lib.hid hbr
     have HOL:=Lib.hid hol2
     have hpv:putW P l = true∨putW P l = false:=by cases putW P l <;> simp
     have HEND:=Lib.hid hend
     clear hown hpo hbr hend hol hol2 hO htake
     rcases hpv with hpv | hpv
     ·have hen:=HEND.out
      rw [hpv,if_pos rfl] at hen
      have HEN:=Lib.hid hen
      rw [hpv]
      clear hpv hen
      go_wp2
      go_ret
      exact ⟨_,rfl,by rw [HP.out,← HEN.out];exact HOWN.out.mono (by rw [HG.out];omega),by rw [HG.out];exact HBR.out⟩
     ·have hen:=HEND.out
      rw [hpv,if_neg (by decide)] at hen
      have HEN:=Lib.hid hen
      rw [hpv]
      clear hpv hen
      go_wp2_with (first
       | ((with_reducible refine wpList_plain (o:=⟨some 82,Op.load _ _,_,_,_,_⟩) rfl fun K hK=>?_);(refine HPO.out.at_.wp rfl rfl (hK _ _ ?_)))
       | ((with_reducible refine wpList_plain (o:=⟨some 83,Op.buildSlice _ _ _,_,_,_,_⟩) rfl fun K hK=>?_);(refine RPeer.wp_build1 Tryz.underlying71 (.tmp 82) (RPeer_ok P) rfl rfl fun w9 ho9 hb9 hs9=>hK _ _ ?_);have HO9:=Lib.hid ho9.row;have HB9:=Lib.hid hb9;clear ho9 hb9 hs9)
       | ((with_reducible refine wpList_plain (o:=⟨some 84,Op.call _,_,_,_,_⟩) rfl fun K hK=>?_);(refine (HOWN.out.of_new HB9.out).app Tryz.underlying71 (.tmp 81) (.tmp 83) rfl rfl rfl HO9.out (by have:=HOL.out;simp;omega) (by have:=HPO.out.lt;have:=HB9.out.size;omega) fun v10 w10 ho10 hg10 hu10=>hK _ _ ?_);have HO10:=Lib.hid ho10;have HB10:=Lib.hid ((below_next' HBR.out HB9.out (Nat.le_of_lt HPO.out.lt)).grown hg10 (Nat.le_of_lt (HPO.out.of_new HB9.out).lt) (fun k e=>by have:=(HOWN.out.lt k e).1;omega));clear ho10 hg10 hu10))
      go_ret
      exact ⟨_,rfl,by rw [HP.out,← HEN.out];exact HO10.out.mono (by rw [HG.out];omega),by rw [HG.out];exact HB10.out⟩
theorem build_peer2 (a c:Int) (x:Bool) (W:World):(Instr.build 137 #[(0,.int .i64 a),(1,.int .i64 c),(2,.bool x)]).run Tryz.prog W = .ok (.agg #[.int .i64 a,.int .i64 c,.bool x]) W:=by kernel_rfl
structure RAnn (w:World) (r:Nat) (many most:Int) (B:Nat) (v:Value) (d:List UInt8) (T:TabL) (i:Nat) (ps:List PeerL) (W:World) (v1:Value) (L1:RefL) (T1:TabL):Prop where
 st:RSt w r many most B v W v1 L1 T1
 at_:T1[i]? = some (d,ps)
 ins:∀ q,T1.set i (d,q) = insK kD (d,q) T
theorem RAnn.new {w r many most B v d T i ps W W' v1 L1 T1} (h:RAnn w r many most B v d T i ps W v1 L1 T1) (hb:Below W.heap.size W W'):RAnn w r many most B v d T i ps W' v1 L1 T1:=⟨h.st.new hb,h.at_,h.ins⟩
theorem RAnn.set {w r many most B v d T i ps q W g1 n1 c1 L1 T1 u0 u} (h:RAnn w r many most B v d T i ps W (.slice (some ⟨g1,0,none⟩) n1 c1) L1 T1) (hi:L1[i]? = some (d,u0)) (hu:RPeer.Own W B u q) :
  RAnn w r many most B v d T i q (W.setCell ⟨g1,i * 33 + 32,none⟩ u) (.slice (some ⟨g1,0,none⟩) n1 c1) (L1.set i (d,u)) (T1.set i (d,q)):=
 ⟨h.st.set hi h.at_ hu,by rw [List.getElem?_set_self (List.getElem?_eq_some_iff.1 h.at_).1],fun p=>by rw [List.set_set];exact h.ins p⟩
theorem ins_get {α:Type} {l:List α} {i:Nat} (h:i ≤ l.length) (x:α) (j:Nat):(l.take i ++ x :: l.drop i)[j]? = if j < i then l[j]? else if j = i then some x else l[j - 1]?:=by
 rw [List.getElem?_append]
 have e:(l.take i).length = i:=by simp;omega
 rw [e]
 by_cases hj:j < i
 ·rw [if_pos hj,if_pos hj,List.getElem?_take,if_pos hj]
 ·rw [if_neg hj,if_neg hj]
  by_cases hj2:j = i
  ·rw [if_pos hj2,hj2];simp
  ·rw [if_neg hj2]
   obtain ⟨m,hm⟩:∃ m,j - i = m + 1:=⟨j - i - 1,by omega⟩
   rw [hm,List.getElem?_cons_succ,List.getElem?_drop]
   congr 1;omega
set_option maxHeartbeats 6400000 in
theorem RAnnounce_any (r:Nat) (many most:Int) (B:Nat) (v:Value) (L:RefL) (T:TabL) (d:List UInt8) (id now life:Int) (seed:Bool) (w:World) (hR:RTabP w r many most B v L T) (hT:TabOk many most T) (hm:1 ≤ many∧many ≤ 1000) (he:1 ≤ most∧most ≤ 64) (h32:d.length = 32) :
  Calls Tryz.prog 99 #[.pointer (some ⟨r,0,none⟩),.agg (d.map B8).toArray,.int .i64 id,.int .i64 now,.int .i64 life,.bool seed] w
   (RPost w r many most B v (annT many most T d id now life seed).1 (.int .i64 (annT many most T d id now life seed).2)):=by
 obtain ⟨W,hW⟩:∃ W,w.alloc (.cells (d.map B8).toArray 31) = W:=⟨_,rfl⟩
 have ho:DigO W w.heap.size d:=by rw [← hW];exact digO_new w h32
 have hb:Below w.heap.size w W:=by rw [← hW];exact (Below.refl _ w).alloc (Nat.le_refl _) _
 have HW:=Lib.hid hW
 have HO:=Lib.hid ho
 have HB:=Lib.hid hb
 have HR:=Lib.hid hR
 have HT:=Lib.hid hT
 have H32:=Lib.hid h32
 have hst0:RSt w r many most B v W v L T:=(RSt.start hR).new hb
 have HST0:=Lib.hid hst0
 clear hR hT hW ho hb hst0 h32
 by_cases hargs:argsB id now life = true
 case neg=>
  have hargs2:argsB id now life = false:=by simpa using hargs
  have hann:annT many most T d id now life seed = (T,1):=by unfold annT;rw [if_neg hargs]
  rw [hann]
  have hor:within id 1 65536 = false∨(within id 1 65536 = true∧within now 0 1099511627776 = false)∨(within id 1 65536 = true∧within now 0 1099511627776 = true∧within life 1 1048576 = false):=by
   have h:(within id 1 65536 && (within now 0 1099511627776 && within life 1 1048576)) = false:=hargs2
   cases h1:within id 1 65536 <;> cases h2:within now 0 1099511627776 <;> cases h3:within life 1 1048576 <;> simp_all
  clear hargs hargs2 hann
  rcases hor with h1 | ⟨h1,h2⟩ | ⟨h1,h2,h3⟩
  all_goals
   go_enter Tryz.func99,Tryz.ntmps99
   go_upto_region 1 with (fail)
   rw [HW.out]
   go_wp2_with (first
    | (go_at_call 87;refine (RIsId_any _ _).mono ?_;rintro e w1 ⟨rfl,rfl⟩)
    | (go_at_call 97;refine (RIsMoment_any _ _).mono ?_;rintro e w1 ⟨rfl,rfl⟩)
    | (go_at_call 59;refine (RIsLife_any _ _).mono ?_;rintro e w1 ⟨rfl,rfl⟩))
   all_goals
    go_ret
    exact ⟨v,L,rfl,HST0.out.tab,HST0.out.step⟩
 have hA:=hargs
 simp only [argsB,Bool.and_eq_true,decide_eq_true_eq] at hA
 have c1:within id 1 65536 = true:=decide_eq_true hA.1
 have c2:within now 0 1099511627776 = true:=decide_eq_true hA.2.1
 have c3:within life 1 1048576 = true:=decide_eq_true hA.2.2
 have hann:annT many most T d id now life seed = (roomT many (insK kD (d,roomP most (withP id (now + life) seed (peersT d T))) T),0):=by unfold annT;rw [if_pos hargs]
 rw [hann]
 have HANN:=Lib.hid hargs
 clear hann hargs
 have hTl:T.length ≤ 1000:=by have:=HT.out.few;omega
 have HTL:=Lib.hid hTl
 clear hTl
 go_enter Tryz.func99,Tryz.ntmps99
 go_upto_region 1 with (fail)
 rw [HW.out]
 obtain ⟨g,hg⟩:∃ g,w.heap.size = g:=⟨_,rfl⟩
 have HG:=Lib.hid hg
 rw [hg] at HO ⊢
 clear hg
 go_upto_region 7 with (first
  | (go_at_call 87;refine (RIsId_any _ _).mono ?_;rintro e w1 ⟨rfl,rfl⟩)
  | (go_at_call 97;refine (RIsMoment_any _ _).mono ?_;rintro e w1 ⟨rfl,rfl⟩)
  | (go_at_call 59;refine (RIsLife_any _ _).mono ?_;rintro e w1 ⟨rfl,rfl⟩)
  | ((with_reducible refine wpList_plain (o:=⟨some 39,Op.load _ _,_,_,_,_⟩) rfl fun K hK=>?_);(refine wp_load_at (ty:=31) (x:=.tmp 7) rfl rfl HO.out.at_ (hK _ _ ?_)))
  | (go_at_call 65;refine (RPlace_any r many most B v L T d _ HST0.out.tab HT.out.rise HT.out.dig (by have:=HTL.out;omega) H32.out).mono ?_;rintro e w2 ⟨i,is,rfl,hpl,hb2⟩;have HPL:=Lib.hid hpl;have HST2:=Lib.hid (HST0.out.new hb2);have HO2:=Lib.hid (HO.out.of_new hb2);clear hpl hb2))
 have hps0:=(peersT_ok HT.out he.1 d).1
 have hps1:=(peersT_ok HT.out he.1 d).2
 obtain ⟨ps,hps⟩:∃ ps,peersT d T = ps:=⟨_,rfl⟩
 rw [hps] at hps0 hps1
 have HPS:=Lib.hid hps
 have HPS0:=Lib.hid hps0
 have hpl64:ps.length ≤ 64:=by omega
 have HPS1:=Lib.hid hpl64
 clear hps hps0 hps1 hpl64
 have hii:i ≤ T.length:=HPL.out.le
 cases is
 case' true=>
  obtain ⟨ps',h1,h2,h3,_,_⟩:=HPL.out.is HT.out.rise
  obtain rfl:ps = ps':=by rw [← HPS.out,h2]
  have hrn:RAnn w r many most B v d T i ps w2 v L T:=⟨HST2.out,h1,fun q=>(h3 q).symm⟩
  obtain ⟨w3,hw3⟩:∃ w3,w2 = w3:=⟨_,rfl⟩
  rw [hw3] at hrn ⊢
  obtain ⟨v1,L1x,T1,hrn⟩:∃ v1 L1 T1,RAnn w r many most B v d T i ps w3 v1 L1 T1:=⟨_,_,_,hrn⟩
  have HRN:=Lib.hid hrn
  clear h1 h2 h3 hrn hw3 hii
  go_upto_region 11 with (fail)
 case' false=>
  obtain ⟨h1,h2,_⟩:=HPL.out.not HT.out.rise
  have HPE:=Lib.hid (show ps = [] by rw [← HPS.out,h1])
  have hLT:=HST2.out.tab.len
  have hl:=HST2.out.tab.own.row
  obtain ⟨s1,hs1,hr1,_⟩:=hl.part Tryz.underlying142 .none (some (.int .i64 (i:Int))) 0 i (Nat.zero_le _) (by omega) (.inl ⟨rfl,rfl⟩) (.inr ⟨_,rfl⟩)
  obtain ⟨s2,hs2,hr2,_⟩:=hl.part Tryz.underlying142 (some (.int .i64 (i:Int))) .none i L.length (by omega) (Nat.le_refl _) (.inr ⟨_,rfl⟩) (.inl ⟨rfl,rfl⟩)
  rw [List.drop_zero,Nat.sub_zero] at hr1
  rw [List.take_of_length_le (by simp)] at hr2
  have HR1:=Lib.hid hr1
  have HR2:=Lib.hid hr2
  have HLT:=Lib.hid hLT
  have HINS:=Lib.hid h2
  have HII:=Lib.hid hii
  have hol:L.length ≤ 1000:=by have:=HTL.out;omega
  have HOL:=Lib.hid hol
  clear h1 h2 hLT hl hr1 hr2 hii hol
  go_upto_region 9 with (first
   | ((with_reducible refine wpList_plain (o:=⟨some 45,Op.buildSlice _ _ _,_,_,_,_⟩) rfl fun K hK=>?_);(refine ROf.wp_build0 Tryz.underlying142 rfl fun w3 ho3 hb3 hs3=>hK _ _ ?_);have HO3:=Lib.hid ho3;have HB3:=Lib.hid hb3;have c3:=(HST2.out.new hb3).tab.cell2;clear ho3 hb3 hs3)
   | ((with_reducible refine wpList_plain (o:=⟨some 52,Op.call _,_,_,_,_⟩) rfl fun K hK=>?_);(refine HO3.out.app Tryz.underlying142 (.tmp 45) (.tmp 51) rfl rfl rfl (HR1.out.of_new HB3.out) (by have:=HOL.out;simp;omega) HB3.out.size fun v4 w4 ho4 hg4 hu4=>hK _ _ ?_);have HO4:=Lib.hid ho4;have HB4:=Lib.hid (HB3.out.grown hg4 HB3.out.size (fun k e=>by cases e;exact Nat.le_refl _));clear ho4 hg4 hu4))
  have ho4:=HO4.out
  rw [List.nil_append] at ho4
  obtain ⟨LA,hLA⟩:∃ LA,L.take i = LA:=⟨_,rfl⟩
  rw [hLA] at ho4
  have HLA:=Lib.hid hLA
  obtain ⟨a4,n4,hv4⟩:=ho4.row.len
  subst hv4
  have hLAl:LA.length ≤ 1000:=by rw [← hLA,List.length_take];have:=HOL.out;omega
  have HLAL:=Lib.hid hLAl
  have HO4':=Lib.hid ho4
  have HOD:=Lib.hid (HO2.out.of_new HB4.out)
  clear HO3 HO4 ho4 hLA c3 HB3 hLAl
  go_upto_region 10 with (first
   | ((with_reducible refine wpList_plain (o:=⟨some 54,Op.load _ _,_,_,_,_⟩) rfl fun K hK=>?_);(refine wp_load_at (ty:=31) (x:=.tmp 7) rfl rfl HOD.out.at_ (hK _ _ ?_)))
   | ((with_reducible refine wpList_plain (o:=⟨some 55,Op.build _ _,_,_,_,_⟩) rfl fun K hK=>?_);(refine wp_build_of1 d rfl rfl H32.out (hK _ _ ?_)))
   | ((with_reducible refine wpList_plain (o:=⟨some 56,Op.buildSlice _ _ _,_,_,_,_⟩) rfl fun K hK=>?_);(refine ROf.wp_build1 Tryz.underlying142 (.tmp 55) (x:=(d,.slice none 0 0)) ⟨H32.out,rfl⟩ rfl rfl fun w5 ho5 hb5 hs5=>hK _ _ ?_);have HO5:=Lib.hid ho5.row;have HB5:=Lib.hid hb5;clear ho5 hb5 hs5)
   | ((with_reducible refine wpList_plain (o:=⟨some 57,Op.call _,_,_,_,_⟩) rfl fun K hK=>?_);(refine (HO4'.out.of_new HB5.out).app Tryz.underlying142 (.tmp 53) (.tmp 56) rfl rfl rfl HO5.out (by have:=HLAL.out;simp;omega) (by have:=HB4.out.size;have:=HB5.out.size;omega) fun v6 w6 ho6 hg6 hu6=>hK _ _ ?_);have HO6:=Lib.hid ho6;have HB6:=Lib.hid ((below_next HB4.out HB5.out).grown hg6 (by have:=HB4.out.size;have:=HB5.out.size;omega) (fun k e=>(HO4'.out.lt k e).1));clear ho6 hg6 hu6))
  obtain ⟨a6,n6,hv6⟩:=HO6.out.row.len
  subst hv6
  have c6:=(HST2.out.new HB6.out).tab.cell2
  obtain ⟨LB,hLB⟩:∃ LB,LA ++ [(d,Value.slice none 0 0)] = LB:=⟨_,rfl⟩
  rw [hLB] at HO6 ⊢
  have HLB:=Lib.hid hLB
  have HLBL:=Lib.hid (show LB.length ≤ 1001 by rw [← hLB];have:=HLAL.out;simp;omega)
  clear hLB HO5 HB5 HO4' HOD
  go_upto_region 11 with (first
   | ((with_reducible refine wpList_plain (o:=⟨some 66,Op.call _,_,_,_,_⟩) rfl fun K hK=>?_);(refine HO6.out.app Tryz.underlying142 (.tmp 59) (.tmp 65) rfl rfl rfl (HR2.out.of_new HB6.out) (by have:=HLBL.out;have:=HOL.out;simp;omega) HB6.out.size fun v7 w7 ho7 hg7 hu7=>hK _ _ ?_);obtain ⟨L1,hL1⟩:∃ L1,LB ++ L.drop i = L1:=⟨_,rfl⟩;rw [hL1] at ho7;have HL1:=Lib.hid hL1;have HO7:=Lib.hid ho7;have HB7:=Lib.hid (HB6.out.grown hg7 HB6.out.size (fun k e=>(HO6.out.lt k e).1));obtain ⟨a7,n7,hv7⟩:=ho7.row.len;subst hv7;have c7:=(HST2.out.new HB7.out).tab.cell2;have f7:=(HST2.out.new HB7.out).tab.free 2;clear hL1 ho7 hg7 hu7))
  generalize hW3:World.setCell w7 _ _ = w3
  have hrn:∃ v1 L1 T1,RAnn w r many most B v d T i ps w3 v1 L1 T1:=by
   rw [HPE.out]
   have hll:L1 = L.take i ++ (d,Value.slice none 0 0) :: L.drop i:=by rw [← HL1.out,← HLB.out,← HLA.out];simp
   have hki:(L.take i).map (·.1) = (T.take i).map (·.1):=by rw [List.map_take,List.map_take,HST2.out.tab.keys]
   have hkd:(L.drop i).map (·.1) = (T.drop i).map (·.1):=by rw [List.map_drop,List.map_drop,HST2.out.tab.keys]
   have h1:=HST2.out.put (L2:=L1) (T2:=T.take i ++ (d,[]) :: T.drop i) HB7.out HO7.out (by rw [hll,List.map_append,List.map_append,List.map_cons,List.map_cons,hki,hkd]) (fun j x y hx hy=>by
    rw [hll,ins_get (by rw [HLT.out];exact HII.out)] at hx
    rw [ins_get HII.out] at hy
    have hB:=(HST2.out.tab.of_new HB7.out).rows
    split at hx
    ·rename_i hj;rw [if_pos hj] at hy;exact hB j x y hx hy
    ·rename_i hj
     rw [if_neg hj] at hy
     split at hx
     ·rename_i hj2
      rw [if_pos hj2] at hy
      cases hx;cases hy
      exact RecT.Own.nil _ _
     ·rename_i hj2;rw [if_neg hj2] at hy;exact hB (j - 1) x y hx hy)
   rw [hW3] at h1
   have hlt:i < (T.take i ++ (d,([]:List PeerL)) :: T.drop i).length:=by have:=HII.out;simp;omega
   refine ⟨_,_,_,h1,?_,fun q=>?_⟩
   ·rw [ins_get HII.out,if_neg (Nat.lt_irrefl _),if_pos rfl]
   ·rw [HINS.out q]
    have e:(T.take i).length = i:=by have:=HII.out;simp;omega
    rw [List.set_append_right _ _ (by omega),e,Nat.sub_self]
    rfl
  obtain ⟨v1,L1x,T1,hrn⟩:=hrn
  have HRN:=Lib.hid hrn
  clear hW3 c7 f7 HO7 HL1 hrn HO6 hs1 hs2
 all_goals
  obtain ⟨u0,hu0,hrow0⟩:=HRN.out.st.tab.val HRN.out.at_
  have hT1:i < T1.length:=(List.getElem?_eq_some_iff.1 HRN.out.at_).1
  have hT1l:T1.length ≤ 1001:=by
   have h1:=congrArg List.length (HRN.out.ins [])
   rw [List.length_set,insK_len HT.out.rise] at h1
   have h2:=HTL.out
   split at h1 <;> omega
  obtain ⟨g1,cp,hv1,hBg,hg1,hgr,hfz,hat⟩:=HRN.out.st.tab.form (by omega)
  subst hv1
  obtain ⟨n1,hn1⟩:∃ n1,T1.length = n1:=⟨_,rfl⟩
  rw [hn1] at HRN hT1 hT1l
  have hcu0:=ROf_val (hat i _ hu0)
  dsimp only at hcu0
  obtain ⟨a0,k0,hv0⟩:=hrow0.row.len
  subst hv0
  have hin:(i:Int) < (n1:Int):=by omega
  have hc2:=fun w' (h:Grew w3 w')=>Grew.cell h HRN.out.st.tab.cell2
  have hcu:=fun w' (h:Grew w3 w')=>Grew.cell h hcu0
  have hsum:IntKind.i64.wrap (now + life) = now + life:=by rw [IntKind.wrap_i64];omega
  have hbp:=build_peer2 id (now + life) seed
  have hfzi:=hfz (i * 33 + 32)
  have HN1:=Lib.hid hn1
  have HROW0:=Lib.hid hrow0
  have HU0:=Lib.hid hu0
  have HFZ:=Lib.hid hfzi
  have HT1L:=Lib.hid hT1l
  have HGL:=Lib.hid hg1
  have HGR:=Lib.hid hgr
  have HBG:=Lib.hid hBg
  have htill:0 ≤ now + life:=by omega
  clear hn1 hrow0 hu0 hat hcu0 hg1 hgr hBg hfz hfzi hT1 hT1l
  refine (wpIn_wide (n:=5)).1 ?_
  refine wpIn_region_mix (ro:=none) (C:=Grew w3) [0,1,2,3,4,5,6,7,8,9,10,11,12,13,14,15,16,17,18] [19] [20,21,22] (by kernel_rfl) (by kernel_rfl) (Grew.start _) (fun c a d v w h=>by cases d <;> exact h) ?_
  simp only [opsAt,List.flatMap_cons,List.flatMap_nil,List.getElem?_cons_zero,List.getElem?_cons_succ,Option.toList_some,List.cons_append,List.nil_append]
  go_simp
  repeat (first
   | (go_big_quiet_want;apply quiet_val;(intro w' hw';go_simp;first | done | rfl);go_simp;go_big_quiet_on)
   | (go_big_quiet_skip))
  refine wpQuiet_nil ?_
  intro w5 hw5
  refine LateL.cons rfl (wp_enter (f:=149) (args:=#[.slice a0 ps.length k0,RPeer.V ⟨id,now + life,seed⟩]) (by go_simp <;> rfl) (RWith_any _ ps ⟨id,now + life,seed⟩ w5 (HROW0.out.row.of_new hw5) HPS0.out.rise (by have:=HPS1.out;omega)) ?_)
  rintro e w6 ⟨v6,rfl,ho6,hb6⟩
  have hw6:Grew w3 w6:=below_next hw5 hb6
  refine ⟨v6,rfl,hw6,?_⟩
  refine LateL.nil ?_
  rw [wF_none]
  rw [mergeP_old HPS0.out.rise htill] at ho6
  replace ho6:RPeer.Own w6 w5.heap.size v6 (withP id (now + life) seed ps):=ho6
  have hqok:=HPS0.out.withP (id:=id) (till:=now + life) seed hA.1 (by omega)
  have hql:=withP_len (id:=id) (till:=now + life) (seed:=seed) HPS0.out
  have hqne:=withP_ne (id:=id) (till:=now + life) (seed:=seed) HPS0.out
  obtain ⟨q,hq⟩:∃ q,withP id (now + life) seed ps = q:=⟨_,rfl⟩
  rw [hq] at ho6 hqok hql hqne
  obtain ⟨a6,k6,hv6⟩:=ho6.row.len
  subst hv6
  have hcu6:=hcu w6 hw6
  have hfz6:w6.frozen? ⟨g1,i * 33 + 32,none⟩ = false:=by
   obtain ⟨cur,hcur⟩:=(HRN.out.new hw6).st.tab.own.block (k:=g1) rfl
   simp [World.frozen?,hcur]
  have hrn7:=(HRN.out.new hw6).set (q:=q) HU0.out (ho6.mono (base':=B) (by have:=HBG.out;have:=HGL.out;have:=hw5.size;omega))
  have HRN7:=Lib.hid hrn7
  have HQ:=Lib.hid hq
  have HQOK:=Lib.hid hqok
  have HQNE:=Lib.hid hqne
  have hq65:q.length ≤ 65:=by have:=HPS1.out;omega
  have HQL:=Lib.hid hq65
  clear hw5 hb6 ho6 hw6 hrn7 hq hqok hql hqne hq65 hc2 hcu hbp hsum
  gi_wp2
  generalize hW7:World.setCell w6 _ _ = w7
  rw [hW7] at HRN7
  obtain ⟨L7,hL7⟩:∃ L7,L1x.set i (d,Value.slice a6 q.length k6) = L7:=⟨_,rfl⟩
  obtain ⟨T7,hT7⟩:∃ T7,T1.set i (d,q) = T7:=⟨_,rfl⟩
  rw [hL7,hT7] at HRN7
  clear hW7 hL7 hT7 hcu6 hfz6 HU0 HROW0
  obtain ⟨a7,k7,hu7,hrow7,hcell7,hfz7,hin7,hn7⟩:=HRN7.out.st.tab.entry HRN7.out.at_
  have HU7:=Lib.hid hu7
  have HROW7:=Lib.hid hrow7
  have HN7:=Lib.hid hn7
  have hc1:=fun w' (h:Grew w7 w')=>Grew.cell h HRN7.out.st.tab.cell1
  have hc2:=fun w' (h:Grew w7 w')=>Grew.cell h HRN7.out.st.tab.cell2
  have hcu:=fun w' (h:Grew w7 w')=>Grew.cell h hcell7
  clear hu7 hrow7 hcell7 hfz7 hn7
  go_upto_region 12 with (fail)
  by_cases hbig:most < (q.length:Int)
  case' pos=>
   refine wp_region_grew (by kernel_rfl) (by kernel_rfl) ?_
   repeat (first
    | (go_big_quiet_want;(with_reducible apply quiet_load_at (ty:=31) (x:=.tmp _));rfl;rfl;assumption;go_simp;go_big_quiet_on)
    | (go_big_quiet_want;apply quiet_val;(intro w' hw';go_simp;first | done | rfl);go_simp;go_big_quiet_on)
    | (go_big_quiet_skip))
   refine wpQuiet_nil ?_
   intro w8 hw8
   have HRN8:=Lib.hid (HRN7.out.new hw8)
   have HROW8:=Lib.hid (HROW7.out.of_new hw8)
   have hc2':=fun w' (h:Grew w8 w')=>hc2 w' (below_next hw8 h)
   have hcu':=fun w' (h:Grew w8 w')=>hcu w' (below_next hw8 h)
   have hroom:∀ a,AtP q q.length a→q.take a ++ q.drop (a + 1) = roomP most q:=fun a ha=>by
    rw [ha.cut HQOK.out.rise];unfold roomP;rw [if_pos hbig]
   have HROOM:=Lib.hid hroom
   have hq0:0 < q.length:=List.length_pos_iff.2 HQNE.out
   have HQ0:=Lib.hid hq0
   clear hw8 hc1 hc2 hcu hroom hq0 hbig
   go_upto_region 13 with (fail)
   refine (wpIn_wide (n:=5)).1 ?_
   refine wpIn_region_mix (ro:=none) (C:=Grew w8) [0,1,2,3,4,5,6,7,8,9,10,11,12,13,14,15,16,17,18,19,20] [21,22] [23,24,25] (by kernel_rfl) (by kernel_rfl) (Grew.start _) (fun c a d v w h=>by cases d <;> exact h) ?_
   simp only [opsAt,List.flatMap_cons,List.flatMap_nil,List.getElem?_cons_zero,List.getElem?_cons_succ,Option.toList_some,List.cons_append,List.nil_append]
   go_simp
   repeat (first
    | (go_big_quiet_want;apply quiet_val;(intro w' hw';go_simp;first | done | rfl);go_simp;go_big_quiet_on)
    | (go_big_quiet_skip))
   refine wpQuiet_nil ?_
   intro w9 hw9
   refine LateL.cons rfl (wp_enter (f:=151) (args:=#[.slice a7 q.length k7]) (by go_simp <;> rfl) (RFirst_any _ q w9 (HROW8.out.row.of_new hw9) HQ0.out) ?_)
   rintro e w10 ⟨fa,rfl,hfa,hb10⟩
   have hw10:Grew w8 w10:=below_next hw9 hb10
   refine ⟨_,rfl,hw10,?_⟩
   refine LateL.cons rfl (wp_enter (f:=150) (args:=#[.slice a7 q.length k7,.int .i64 (fa:Int)]) (by go_simp <;> rfl) (RCutPeer_any _ q fa w10 (HROW8.out.row.of_new hw10) hfa.1 (by have:=HQL.out;omega)) ?_)
   rintro e w11 ⟨v11,rfl,ho11,hb11⟩
   have hw11:Grew w8 w11:=below_next hw10 hb11
   refine ⟨_,rfl,hw11,?_⟩
   refine LateL.nil ?_
   rw [wF_none]
   rw [HROOM.out fa hfa] at ho11
   obtain ⟨p',hp'⟩:∃ p',roomP most q = p':=⟨_,rfl⟩
   rw [hp'] at ho11
   obtain ⟨a11,k11,hv11⟩:=ho11.row.len
   subst hv11
   have hcu11:=hcu' w11 hw11
   obtain ⟨-, -, -, -, -,hfz11, -, -⟩:=(HRN8.out.new hw11).st.tab.entry HRN8.out.at_
   have hrn12:=(HRN8.out.new hw11).set (q:=p') HU7.out (ho11.mono (base':=B) (by have:=(HRN8.out.new hw10).st.tab.base;have:=(HRN8.out.new hw10).st.tab.lt;omega))
   have HRNZ:=Lib.hid hrn12
   have HPZ:=Lib.hid hp'
   clear hw9 hfa hb10 hw10 ho11 hb11 hw11 hp' hrn12 hc2' hcu'
   gi_wp2
   generalize hW12:World.setCell w11 _ _ = wz
   rw [hW12] at HRNZ
   obtain ⟨LZ,hLZ⟩:∃ LZ,L7.set i (d,Value.slice a11 p'.length k11) = LZ:=⟨_,rfl⟩
   obtain ⟨TZ,hTZ⟩:∃ TZ,T7.set i (d,p') = TZ:=⟨_,rfl⟩
   rw [hLZ,hTZ] at HRNZ
   clear hW12 hLZ hTZ hcu11 hfz11
   go_upto_region 14 with (fail)
  case' neg=>
   refine wp_region_grew (by kernel_rfl) (by kernel_rfl) ?_
   repeat (first
    | (go_big_quiet_want;(with_reducible apply quiet_load_at (ty:=31) (x:=.tmp _));rfl;rfl;assumption;go_simp;go_big_quiet_on)
    | (go_big_quiet_want;apply quiet_val;(intro w' hw';go_simp;first | done | rfl);go_simp;go_big_quiet_on)
    | (go_big_quiet_skip))
   refine wpQuiet_nil ?_
   intro wz hwz
   have HRNZ:=Lib.hid (HRN7.out.new hwz)
   obtain ⟨p',hp'⟩:∃ p',roomP most q = p':=⟨_,rfl⟩
   have hqp:q = p':=by rw [← hp'];unfold roomP;rw [if_neg hbig]
   have HPZ:=Lib.hid hp'
   rw [hqp] at HRNZ
   obtain ⟨LZ,hLZ⟩:∃ LZ,L7 = LZ:=⟨_,rfl⟩
   obtain ⟨TZ,hTZ⟩:∃ TZ,T7 = TZ:=⟨_,rfl⟩
   rw [hLZ,hTZ] at HRNZ
   clear hwz hc1 hc2 hcu hp' hqp hbig hLZ hTZ
   go_upto_region 14 with (fail)
  all_goals
   have htz:TZ = insK kD (d,p') T:=by rw [← HRNZ.out.ins p'];exact (set_same HRNZ.out.at_).symm
   have hrz:Rising kD TZ:=by rw [htz];exact HT.out.rise.ins _
   have hres:roomT many (insK kD (d,roomP most (withP id (now + life) seed (peersT d T))) T) = if many < (TZ.length:Int) then delK kD (kD (firstT TZ)) TZ else TZ:=by
    rw [HPS.out,HQ.out,HPZ.out,← htz];rfl
   have HRES:=Lib.hid hres
   have HRZ:=Lib.hid hrz
   have hnz:n1 = TZ.length:=by
    obtain ⟨_,_,_,_,_,_,_,h⟩:=HRNZ.out.st.tab.entry HRNZ.out.at_
    exact h
   have HNZ:=Lib.hid hnz
   have hn1b:n1 ≤ 1001:=HT1L.out
   have hc0:=fun w' (h:Grew wz w')=>Grew.cell h HRNZ.out.st.tab.cell0
   have hc2:=fun w' (h:Grew wz w')=>Grew.cell h HRNZ.out.st.tab.cell2
   clear htz hres hrz hnz
   by_cases hmany:many < (n1:Int)
   case neg=>
    refine wp_region_grew (by kernel_rfl) (by kernel_rfl) ?_
    repeat (first
     | (go_big_quiet_want;(with_reducible apply quiet_load_at (ty:=31) (x:=.tmp _));rfl;rfl;assumption;go_simp;go_big_quiet_on)
     | (go_big_quiet_want;apply quiet_val;(intro w' hw';go_simp;first | done | rfl);go_simp;go_big_quiet_on)
     | (go_big_quiet_skip))
    refine wpQuiet_nil ?_
    intro w20 hw20
    have HRF:=Lib.hid (HRNZ.out.new hw20)
    have hfin:roomT many (insK kD (d,roomP most (withP id (now + life) seed (peersT d T))) T) = TZ:=by rw [HRES.out,if_neg (by rw [← HNZ.out];exact hmany)]
    have HFIN:=Lib.hid hfin
    clear hw20 hc0 hc2 hfin
    go_wp2
    go_ret
    exact ⟨_,_,rfl,by rw [HFIN.out];exact HRF.out.st.tab,HRF.out.st.step⟩
   have hfin:roomT many (insK kD (d,roomP most (withP id (now + life) seed (peersT d T))) T) = delK kD (kD (firstT TZ)) TZ:=by rw [HRES.out,if_pos (by rw [← HNZ.out];exact hmany)]
   have HFIN:=Lib.hid hfin
   clear hfin
   refine wp_region_grew (by kernel_rfl) (by kernel_rfl) ?_
   repeat (first
    | (go_big_quiet_want;(with_reducible apply quiet_load_at (ty:=31) (x:=.tmp _));rfl;rfl;assumption;go_simp;go_big_quiet_on)
    | (go_big_quiet_want;apply quiet_val;(intro w' hw';go_simp;first | done | rfl);go_simp;go_big_quiet_on)
    | (go_big_quiet_skip))
   refine wpQuiet_nil ?_
   intro w20 hw20
   have HRF:=Lib.hid (HRNZ.out.new hw20)
   clear hw20 hc0 hc2
   go_wp2
   clear hmany
   go_loopw [19,20] (fun av kv W'=>∃ k a:Nat,kv = .int .i64 (k:Int)∧av = .int .i64 (a:Int)∧AtT TZ k a∧Below w20.heap.size w20 W') (fun _ kv _=>n1 - (intOf kv).toNat)
   case atStart=>exact ⟨1,0,rfl,rfl,AtT.start (by have:=HNZ.out;omega),Below.refl _ _⟩
   case round=>
    rename World=>w21
    obtain ⟨k,fa,rfl,rfl,hat,hb21⟩:=hrel
    have hak:=hat.1
    have hkn:k ≤ n1:=by rw [HNZ.out];exact hat.2.1
    have hR21:=HRF.out.new hb21
    have c2':=hR21.st.tab.cell2
    by_cases hlt:k < n1
    ·have hki:(k:Int) < (n1:Int):=by omega
     have hai:(fa:Int) < (n1:Int):=by omega
     have hain:fa < n1:=by omega
     obtain ⟨⟨yd,yp⟩,hy⟩:∃ y,TZ[k]? = some y:=⟨_,List.getElem?_eq_getElem (by rw [← HNZ.out];exact hlt)⟩
     obtain ⟨⟨xd,xp⟩,hx⟩:∃ y,TZ[fa]? = some y:=⟨_,List.getElem?_eq_getElem (by rw [← HNZ.out];omega)⟩
     obtain ⟨ay,ky, -,hrowy,hcy, -, -, -⟩:=hR21.st.tab.entry hy
     obtain ⟨ax,kx, -,hrowx,hcx, -, -, -⟩:=hR21.st.tab.entry hx
     have hst:=hat.step HRZ.out hx hy
     dsimp only at hst
     have hc2:=fun w' (h:Grew w21 w')=>Grew.cell h c2'
     have hcy2:=fun w' (h:Grew w21 w')=>Grew.cell h hcy
     have hcx2:=fun w' (h:Grew w21 w')=>Grew.cell h hcx
     have HLY:=Lib.hid (fun w' (h:Grew w21 w')=>hrowy.row.of_new h)
     have HLX:=Lib.hid (fun w' (h:Grew w21 w')=>hrowx.row.of_new h)
     have HST:=Lib.hid hst
     have HB21:=Lib.hid hb21
     clear hy hx hrowy hrowx hcy hcx hst hat hb21 hR21
     go_upto_region 19 with (fail)
     clear c2'
     refine wp_region_grew (by kernel_rfl) (by kernel_rfl) ?_
     repeat (first
      | (go_big_quiet_want;(with_reducible apply quiet_load_at (ty:=31) (x:=.tmp _));rfl;rfl;assumption;go_simp;go_big_quiet_on)
      | (go_big_quiet_want;apply quiet_val;(intro w' hw';go_simp;first | done | rfl);go_simp;go_big_quiet_on)
      | (go_big_quiet_want;apply quiet_call (f:=152);(intro w' hw';go_simp;first | done | rfl);(intro w' hw';exact Grew.call hw' (RLastB_any _ _ w' (by first | exact HLY.out w' hw' | exact HLX.out w' hw')));go_simp;go_big_quiet_on)
      | (go_big_quiet_skip))
     refine wpQuiet_nil ?_
     intro w22 hw22
     have HB22:=Lib.hid (below_next HB21.out hw22)
     clear hw22 hc2 hcy2 hcx2 HLY HLX
     generalize lastP yp = ly at *
     generalize lastP xp = lx at *
     by_cases hle:ly ≤ lx
     ·have hst:=HST.out
      rw [if_pos hle] at hst
      have HS2:=Lib.hid hst
      clear hst
      go_wp2
      go_roundw
      case rel=>exact ⟨k + 1,k,by go_num,rfl,HS2.out,HB22.out⟩
      case measure=>simp [intOf];omega
     ·have hst:=HST.out
      rw [if_neg hle] at hst
      have HS2:=Lib.hid hst
      clear hst
      go_wp2
      go_roundw
      case rel=>exact ⟨k + 1,fa,by go_num,rfl,HS2.out,HB22.out⟩
      case measure=>simp [intOf];omega
    ·obtain rfl:k = n1:=by omega
     have hki:¬ (k:Int) < (k:Int):=by omega
     have HAT:=Lib.hid hat
     have HR21:=Lib.hid hR21
     clear hat hb21 hR21
     go_wp2_with (go_at_call 153;refine (RCut_any r many most B _ _ TZ fa _ HR21.out.st.tab (by have:=HNZ.out;have:=HAT.out.1;omega) (by have:=HNZ.out;omega)).mono ?_;rintro e w25 ⟨v25,L25,rfl,ht25,hs25,ho25⟩;have HT25:=Lib.hid ht25;have HS25:=Lib.hid (HR21.out.st.next ht25 hs25 (fun k e=>.inr (ho25 k e)));clear ht25 hs25 ho25)
     go_ret
     have hcut:=AtT.cut (by have:=HAT.out;rwa [HNZ.out] at this) HRZ.out
     exact ⟨_,_,rfl,by rw [HFIN.out,← hcut];exact HS25.out.tab,HS25.out.step⟩
set_option maxHeartbeats 1600000 in
theorem RPeers_any (r:Nat) (many most:Int) (B:Nat) (v:Value) (L:RefL) (T:TabL) (d:List UInt8) (w:World) (hR:RTabP w r many most B v L T) (hT:TabOk many most T) (hm:1 ≤ many∧many ≤ 1000) (h32:d.length = 32) :
  Calls Tryz.prog 29 #[.pointer (some ⟨r,0,none⟩),.agg (d.map B8).toArray] w fun e w'=>∃ u,e = .returned u∧RPeer.Row w' u (peersT d T)∧Below w.heap.size w w':=by
 obtain ⟨W,hW⟩:∃ W,w.alloc (.cells (d.map B8).toArray 31) = W:=⟨_,rfl⟩
 have ho:DigO W w.heap.size d:=by rw [← hW];exact digO_new w h32
 have hb:Below w.heap.size w W:=by rw [← hW];exact (Below.refl _ w).alloc (Nat.le_refl _) _
 have HW:=Lib.hid hW
 have HO:=Lib.hid ho
 have HT:=Lib.hid hT
 have H32:=Lib.hid h32
 have HB:=Lib.hid hb
 have HR0:=Lib.hid (hR.of_new hb)
 have hTl:T.length ≤ 1000:=by have:=hT.few;omega
 have HTL:=Lib.hid hTl
 obtain ⟨ps,hps⟩:∃ ps,peersT d T = ps:=⟨_,rfl⟩
 rw [hps]
 have HPS:=Lib.hid hps
 clear hR hT hW ho hb h32 hTl hps
 go_enter Tryz.func29,Tryz.ntmps29
 go_upto_region 1 with (fail)
 rw [HW.out]
 obtain ⟨g,hg⟩:∃ g,w.heap.size = g:=⟨_,rfl⟩
 have HG:=Lib.hid hg
 rw [hg] at HO ⊢
 clear hg
 go_upto_region 2 with (first
  | ((with_reducible refine wpList_plain (o:=⟨some 9,Op.load _ _,_,_,_,_⟩) rfl fun K hK=>?_);(refine wp_load_at (ty:=31) (x:=.tmp 3) rfl rfl HO.out.at_ (hK _ _ ?_)))
  | (go_at_call 65;refine (RPlace_any r many most B v L T d _ HR0.out HT.out.rise HT.out.dig (by have:=HTL.out;omega) H32.out).mono ?_;rintro e w2 ⟨i,is,rfl,hpl,hb2⟩;have HPL:=Lib.hid hpl;have HR2:=Lib.hid (HR0.out.of_new hb2);have HB2:=Lib.hid (below_next HB.out hb2);clear hpl hb2))
 cases is
 case false=>
  obtain ⟨h1,h2,h3⟩:=HPL.out.not HT.out.rise
  have hpe:ps = []:=by rw [← HPS.out,h1]
  have HPE:=Lib.hid hpe
  clear h1 h2 h3 hpe
  go_wp2
  go_ret
  exact ⟨_,rfl,by rw [HPE.out];exact RecT.Row.nil _,HG.out ▸ HB2.out⟩
 case true=>
  obtain ⟨ps',h1,h2,h3,h4,_⟩:=HPL.out.is HT.out.rise
  obtain rfl:ps = ps':=by rw [← HPS.out,h2]
  have HAT:=Lib.hid h1
  clear h1 h2 h3 h4
  obtain ⟨gv,gc,hv, -, -, -, -, -⟩:=HR2.out.form (by have:=(List.getElem?_eq_some_iff.1 HAT.out).1;omega)
  subst hv
  obtain ⟨n1,hn1⟩:∃ n1,T.length = n1:=⟨_,rfl⟩
  rw [hn1] at HR2
  obtain ⟨a7,k7, -,hrow7,hcell7, -,hin7, -⟩:=HR2.out.entry HAT.out
  have hii:(i:Int) < (n1:Int):=by omega
  have HROW:=Lib.hid hrow7
  have c2:=HR2.out.cell2
  clear hn1 hrow7
  go_wp2
  go_ret
  exact ⟨_,rfl,HROW.out.row,HG.out ▸ HB2.out⟩
end Go.Proofs.YtnohglkilpnjhaaGreatDoor
