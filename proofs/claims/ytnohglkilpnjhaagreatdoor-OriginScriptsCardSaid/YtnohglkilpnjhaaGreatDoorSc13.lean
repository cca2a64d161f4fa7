/- Lemmas that the statement of this claim leans on; their own comments are taken out, for the size of the claim. No condition beyond what each lemma states. -/
import Derived.Test.YtnohglkilpnjhaaGreatDoorSc12
import Derived.Deep.QuietTactic
import Derived.BigQuiet
import Derived.LoopNIn
import Derived.LoopIn
import Derived.Shelf.Abstract
import Derived.Shelf.RegionOpen
import Derived.Maps.AppendAt
import Derived.Great.BuildSlice
import Derived.IntWalk
set_option linter.unusedVariables false
set_option linter.unusedSimpArgs false
set_option linter.unusedSectionVars false
namespace Go.Proofs.YtnohglkilpnjhaaGreatDoor
open Go.RowKit
set_option maxRecDepth 100000
theorem imageE_short {l:List BlobL} (h:l.length < 1∨16 < l.length):imageE l = 1:=by unfold imageE;rw [if_pos (h.imp id .inl)]
theorem imageE_odd {l:List BlobL} {x:BlobL} (h:x ∈ l) (hx:mrightB x.size x.piece = false):imageE l = 1:=by
 unfold imageE
 have hr:rightsB l = false:=by
  cases hr:rightsB l
  ·rfl
  ·have:=List.all_eq_true.1 hr x h
   rw [hx] at this;cases this
 rw [if_pos (.inr (.inr hr))]
theorem imageE_fine {l:List BlobL} (h1:¬ l.length < 1) (h2:¬ 16 < l.length) (hr:rightsB l = true):imageE l = if (digs l).Nodup then 0 else 5:=by
 unfold imageE
 rw [if_neg]
 rintro (h | h | h)
 ·exact h1 h
 ·exact h2 h
 ·rw [hr] at h;cases h
theorem rights_step {l:List BlobL} {k:Nat} {x:BlobL} (h:l[k]? = some x) (h1:rightsB (l.take k) = true) (h2:mrightB x.size x.piece = true):rightsB (l.take (k + 1)) = true:=by
 unfold rightsB at *
 rw [List.take_add_one,h,List.all_append,h1]
 simp [h2]
def RImgI (w0:World) (l:List BlobL) (tv iv:Value) (W:World):Prop:=∃ k:Nat,k ≤ l.length∧iv = .int .i64 k∧tv = .bool (!decide (digs (l.take k)).Nodup)∧rightsB (l.take k) = true∧Below w0.heap.size w0 W
def RImgJ (w0:World) (l:List BlobL) (i:Nat) (d:List UInt8) (tv kv:Value) (W:World):Prop:=∃ k:Nat,k ≤ i∧kv = .int .i64 k∧tv = .bool (!decide (digs (l.take i)).Nodup || decide (d ∈ digs (l.take k)))∧Below w0.heap.size w0 W
theorem twice_step {l:List BlobL} {k:Nat} {x:BlobL} (h:l[k]? = some x):(!decide (digs (l.take (k + 1))).Nodup) = (!decide (digs (l.take k)).Nodup || decide (x.dig ∈ digs (l.take k))):=by
 have e:decide (digs (l.take k) ++ [x.dig]).Nodup = (decide (digs (l.take k)).Nodup && !decide (x.dig ∈ digs (l.take k))):=by
  rw [Bool.eq_iff_iff]
  simp only [decide_eq_true_eq,Bool.and_eq_true,Bool.not_eq_true',decide_eq_false_iff_not,nodup_snoc]
 rw [digs_step h,e]
 cases decide (digs (l.take k)).Nodup <;> cases decide (x.dig ∈ digs (l.take k)) <;> rfl
theorem mem_step {l:List BlobL} {k:Nat} {x:BlobL} {d:List UInt8} (h:l[k]? = some x):decide (d ∈ digs (l.take (k + 1))) = (decide (d ∈ digs (l.take k)) || decide (x.dig = d)):=by
 rw [digs_step h,Bool.eq_iff_iff]
 simp only [List.mem_append,List.mem_singleton,Bool.or_eq_true,decide_eq_true_eq]
 exact or_congr Iff.rfl eq_comm
set_option maxHeartbeats 6400000 in
theorem RImage_any (v:Value) (l:List BlobL) (w:World) (hl:RBlob.Row w v l):Calls Tryz.prog 92 #[.agg #[v]] w fun e w'=>e = .returned (.int .i64 (imageE l))∧Below w.heap.size w w':=by
 obtain ⟨a,c,hv⟩:=hl.len
 subst hv
 have hle:=hl.le
 obtain ⟨W,hW⟩:∃ W,w.alloc (.cells #[.slice a l.length c] 52) = W:=⟨_,rfl⟩
 have ho:One W w.heap.size (.slice a l.length c) 52:=by rw [← hW];exact heap_alloc_new w _
 have hb:Below w.heap.size w W:=by rw [← hW];exact (Below.refl _ w).alloc (Nat.le_refl _) _
 have hc1:=ho.cell
 have HL:=Lib.hid (hl.of_new hb)
 have HO:=Lib.hid ho
 have HW:=Lib.hid hW
 have HB:=Lib.hid hb
 clear hl ho hW hb
 by_cases h1:l.length < 1
 ·have HE:=Lib.hid (imageE_short (.inl h1))
  have h1i:(l.length:Int) < 1:=by omega
  clear h1
  go_enter Tryz.func92,Tryz.ntmps92
  go_upto_region 1 with (fail)
  rw [HW.out]
  go_wp2
  go_ret
  exact ⟨ret_int5 HE.out,HB.out⟩
 have h1i:¬ (l.length:Int) < 1:=by omega
 by_cases h2:16 < l.length
 ·have HE:=Lib.hid (imageE_short (.inr h2))
  have h2i:(16:Int) < (l.length:Int):=by omega
  clear h1 h2
  go_enter Tryz.func92,Tryz.ntmps92
  go_upto_region 1 with (fail)
  rw [HW.out]
  go_wp2
  go_ret
  exact ⟨ret_int5 HE.out,HB.out⟩
 have h2i:¬ (16:Int) < (l.length:Int):=by omega
 have HE:=Lib.hid (fun hr=>imageE_fine h1 h2 hr)
 have h2l:(l.length:Int) ≤ 16:=by omega
 clear h1 h2
 go_enter Tryz.func92,Tryz.ntmps92
 go_upto_region 1 with (fail)
 rw [HW.out]
 go_wp2
 go_loopw [3,4,5,6] (fun tv iv _ _ W'=>RImgI W l tv iv W') (fun _ iv _ _ _=>l.length - (intOf iv).toNat)
 case atStart=>exact ⟨0,Nat.zero_le _,rfl,by simp [digs],rfl,Below.refl _ _⟩
 case round=>
  obtain ⟨i,hi,rfl,rfl,hri,hbr⟩:=hrel
  have hc2:=Grew.cell hbr hc1
  by_cases hlt:i < l.length
  ·obtain ⟨b,off,c',hv,hbl,hc⟩:=HL.out.at_ (by omega)
   obtain ⟨rfl,rfl⟩:a = some ⟨b,off,none⟩∧c = c':=by cases hv;exact ⟨rfl,rfl⟩
   obtain ⟨y,hy⟩:∃ y,l[i]? = some y:=⟨_,List.getElem?_eq_getElem hlt⟩
   have hat:=(hc i y hy).of_new hbr
   have hR:=fun w'=>RRight_any y w' hat.1
   have hii:(i:Int) < (l.length:Int):=by omega
   have HC:=Lib.hid hc
   have HY:=Lib.hid hy
   have HAT:=Lib.hid hat
   have HBR:=Lib.hid hbr
   have HRI:=Lib.hid hri
   obtain ⟨TW,hTW⟩:∃ TW,(!decide (digs (l.take i)).Nodup) = TW:=⟨_,rfl⟩
   have HTW:=Lib.hid hTW
   rw [hTW]
   clear hv hc hy hat hbr hri hTW
   rcases hrb:mrightB y.size y.piece with _ | _
   ·rw [hrb] at hR
    have HR:=Lib.hid hR
    have HN:=Lib.hid (imageE_odd (List.mem_of_getElem? HY.out) hrb)
    clear hR hrb
    go_wp2_with (first
     | ((with_reducible refine wpList_plain (o:=⟨some 28,Op.load _ _,_,_,_,_⟩) rfl fun K hK=>?_);(refine HAT.out.wp rfl rfl (hK _ _ ?_)))
     | (go_at_call 143;refine (HR.out _).mono ?_;rintro e w4 ⟨rfl,hb4⟩;have HB4:=Lib.hid (below_next (below_next HB.out HBR.out) hb4);clear hb4))
    go_ret
    exact ⟨ret_int5 HN.out,HB4.out⟩
   rw [hrb] at hR
   have HR:=Lib.hid hR
   have HRS:=Lib.hid (rights_step HY.out HRI.out hrb)
   clear hR hrb
   rename World=>wo
   go_wp2_with (first
    | ((with_reducible refine wpList_plain (o:=⟨some 28,Op.load _ _,_,_,_,_⟩) rfl fun K hK=>?_);(refine HAT.out.wp rfl rfl (hK _ _ ?_)))
    | (go_at_call 143;refine (HR.out _).mono ?_;rintro e w4 ⟨rfl,hb4⟩;have HB4:=Lib.hid (below_next HBR.out hb4);have HAT4:=Lib.hid (HAT.out.of_new hb4);clear hb4))
   go_loopw [3,6] (fun tv kv W'=>RImgJ w4 l i y.dig tv kv W') (fun _ kv _=>i - (intOf kv).toNat)
   case atStart=>exact ⟨0,Nat.zero_le _,rfl,by rw [HTW.out];simp [digs],Below.refl _ _⟩
   case round=>
    obtain ⟨k,hk,rfl,rfl,hbk⟩:=hrel
    rw [HTW.out]
    have hbB:=below_next HB4.out hbk
    have hc3:=Grew.cell hbB hc1
    by_cases hlt2:k < i
    ·obtain ⟨z,hz⟩:∃ z,l[k]? = some z:=⟨_,List.getElem?_eq_getElem (by omega)⟩
     have hatz:=(HC.out k z hz).of_new hbB
     have haty:=HAT4.out.of_new hbk
     have hdz:=hatz.dig5
     have hdy:=haty.dig5
     have hst:=mem_step (d:=y.dig) hz
     obtain ⟨M,hM⟩:∃ M,decide (y.dig ∈ digs (l.take k)) = M:=⟨_,rfl⟩
     rw [hM] at hst ⊢
     have hq:=fun w'=>run_eql_dig z.dig y.dig hatz.1.1 haty.1.1 w'
     have hgd:=guard_dig
     have hco:∀ w',Grew wr w'→w'.cell? ⟨w.heap.size,0,none⟩ = some (.slice (some ⟨b,off,none⟩) l.length c):=fun w' h=>Grew.cell h hc3
     have hki:(k:Int) < (i:Int):=by omega
     have hkl:(k:Int) < (l.length:Int):=by omega
     have HST:=Lib.hid hst
     have HBK:=Lib.hid hbk
     clear hz hatz haty hst hM hbk hbB
     generalize hX:decide (z.dig = y.dig) = X at hq
     have HX:=Lib.hid hX
     clear hX
     cases hT:(TW || M)
     ·go_upto_region 13 with (fail)
      refine wp_region_grew (by kernel_rfl) (by kernel_rfl) ?_
      repeat (first
       | (go_big_quiet_want;(with_reducible apply quiet_load_at (ty:=31) (x:=.tmp _));rfl;rfl;assumption;go_simp;go_big_quiet_on)
       | (go_big_quiet_want;apply quiet_val;(intro w' hw';go_simp;first | done | rfl);go_simp;go_big_quiet_on)
       | (go_big_quiet_skip))
      refine wpQuiet_nil ?_
      intro w6 hw6
      have HW6:=Lib.hid (show Below wr.heap.size wr w6 from hw6)
      clear hw6
      go_wp2
      go_roundw
      case rel=>exact ⟨k + 1,by omega,by go_num,by rw [HTW.out,HST.out,HX.out,← Bool.or_assoc,hT];simp,below_next HBK.out HW6.out⟩
      case measure=>simp [intOf];omega
     ·go_upto_region 13 with (fail)
      refine wp_region_grew (by kernel_rfl) (by kernel_rfl) ?_
      repeat (first
       | (go_big_quiet_want;(with_reducible apply quiet_load_at (ty:=31) (x:=.tmp _));rfl;rfl;assumption;go_simp;go_big_quiet_on)
       | (go_big_quiet_want;apply quiet_val;(intro w' hw';go_simp;first | done | rfl);go_simp;go_big_quiet_on)
       | (go_big_quiet_skip))
      refine wpQuiet_nil ?_
      intro w6 hw6
      have HW6:=Lib.hid (show Below wr.heap.size wr w6 from hw6)
      clear hw6
      go_wp2
      go_roundw
      case rel=>exact ⟨k + 1,by omega,by go_num,by rw [HTW.out,HST.out,← Bool.or_assoc,hT];simp,below_next HBK.out HW6.out⟩
      case measure=>simp [intOf];omega
    ·obtain rfl:k = i:=by omega
     have hki:¬ (k:Int) < (k:Int):=by omega
     have HT2:=Lib.hid (twice_step HY.out)
     have HBK:=Lib.hid (below_next HB4.out hbk)
     obtain ⟨M,hM⟩:∃ M,decide (y.dig ∈ digs (l.take k)) = M:=⟨_,rfl⟩
     have HM:=Lib.hid hM
     rw [hM]
     clear hbB hbk hM
     go_wp2
     go_roundw
     case rel=>exact ⟨k + 1,by omega,by go_num,by rw [HT2.out,HTW.out,HM.out],HRS.out,HBK.out⟩
     case measure=>simp [intOf];omega
  ·obtain rfl:i = l.length:=by omega
   rw [List.take_length] at hri ⊢
   have HN:=Lib.hid (HE.out hri)
   have HBR:=Lib.hid (below_next HB.out hbr)
   by_cases hn:(digs l).Nodup
   ·have HN2:=Lib.hid (HN.out.trans (if_pos hn))
    rw [show (!decide (digs l).Nodup) = false by simp [hn]]
    clear hri hbr hn
    go_wp2
    go_ret
    exact ⟨ret_int5 HN2.out,HBR.out⟩
   ·have HN2:=Lib.hid (HN.out.trans (if_neg hn))
    rw [show (!decide (digs l).Nodup) = true by simp [hn]]
    clear hri hbr hn
    go_wp2
    go_ret
    exact ⟨ret_int5 HN2.out,HBR.out⟩
end Go.Proofs.YtnohglkilpnjhaaGreatDoor
namespace Go.Proofs.YtnohglkilpnjhaaGreatDoor
open Go.RowKit
set_option maxRecDepth 100000 in
set_option maxHeartbeats 3200000 in
theorem refEncode_any (v:Value) (l:List It) (w:World) (hl:Items w v l) :
  Calls Tryz.prog 46 #[v] w (EncPost w (rencL l)):=by
 obtain ⟨i0,hi,hz0,hz1,hz2⟩:=info_parts infoU8
 obtain ⟨a,cp,rfl⟩:=hl.len
 have HL:=Lib.hid hl
 have hll:=hl.le
 clear hl
 go_enter Tryz.func46,Tryz.ntmps46
 by_cases hmany:(63:Int) < l.length
 ·go_wp2
  go_ret2
  exact enc_none (by rw [rencL,if_pos (by omega)]) (Below.refl _ _)
 ·go_wp2
  go_loopw [4,5,6] (fun ov lv iv wr=>∃ (k:Nat) (last:Int) (out:List UInt8),k ≤ l.length∧out.length ≤ 65536∧0 ≤ last∧last ≤ 63∧lv = .int .i64 last∧iv = .int .i64 k∧rencL l = rencF (l.drop k) last out ∧
    Own8 wr w.heap.size 5 ov out∧Below w.heap.size w wr)
   (fun _ _ iv _=>l.length - (intOf iv).toNat)
  case atStart=>exact ⟨0,0,[],by omega,by simp,by omega,by omega,rfl,rfl,by rw [rencL,if_neg (by omega)];rfl,Own8.nil _ _ _,Below.refl _ _⟩
  case round=>
   obtain ⟨k,last,out,hk,ho,hla,hlb,rfl,rfl,heq,hown,hb⟩:=hrel
   have hsz:=hb.size
   by_cases hlt:k < l.length
   ·obtain ⟨b,off,c',hv,hbl,hc⟩:=HL.out.cell (by omega)
    obtain ⟨rfl,rfl⟩:a = some ⟨b,off,none⟩∧cp = c':=by cases hv;exact ⟨rfl,rfl⟩
    obtain ⟨hc1',u,hc2',hu⟩:=hc k hlt
    have hc1:=(hb.cell (p:=⟨b,off + k * 2,none⟩) hbl).trans hc1'
    have hc2:=(hb.cell (p:=⟨b,off + k * 2 + 1,none⟩) hbl).trans hc2'
    rw [drop_at_it hlt] at heq
    generalize l.getD k (0,[]) = x at *
    obtain ⟨ua,uc,rfl⟩:=hu.len
    obtain ⟨oa,oc,hoe⟩:=hown.bytes.len
    subst hoe
    have Hc:=Lib.hid hc
    have Hu:=Lib.hid hu
    have Heq:=Lib.hid heq
    have Hw1:=Lib.hid hc1'
    have Hw2:=Lib.hid hc2'
    clear hc hv hu heq hc1' hc2'
    by_cases hx1:x.1 ≤ last
    ·go_wp2
     go_ret2
     exact enc_none (Heq.out.trans (by rw [rencF,if_pos (.inl hx1)])) hb
    ·by_cases hx2:63 < x.1
     ·go_wp2
      go_ret2
      exact enc_none (Heq.out.trans (by rw [rencF,if_pos (.inr (.inl hx2))])) hb
     ·by_cases hx3:(65536:Int) < x.2.length
      ·go_wp2
       go_ret2
       exact enc_none (Heq.out.trans (by rw [rencF,if_pos (.inr (.inr (by omega)))])) hb
      ·have hul:=uint_len10 (n:=x.2.length) (by omega)
       have hk1:k + 1 ≤ l.length:=hlt
       have hx1p:0 ≤ x.1:=by omega
       have one1:∀ W:World,Bytes (W.alloc (.cells #[.int .u8 x.1] 5)) (.slice (some ⟨W.heap.size,0,none⟩) 1 1) [UInt8.ofNat x.1.toNat]:=fun W=>by
        have e:Value.int .u8 x.1 = B8 (UInt8.ofNat x.1.toNat):=by unfold B8;congr 1;simp;omega
        rw [e];exact Bytes.one _ _ _
       have Hone:=Lib.hid one1
       clear one1
       go_wp2_with (at_builtin;refine wpList_app8 rfl (.tmp 45) (.tmp 48) 33 rfl w.heap.size 5 i0 Tryz.underlying33 hi hz0 hz1 hz2 _ out rfl (hown.alloc _) _ [UInt8.ofNat x.1.toNat] rfl ?c1 ?c2 ?c3 ?_)
       case c1=>exact Hone.out _
       case c2=>first | omega | (simp;omega)
       case c3=>first | omega | (simp;omega)
       intro v1 w1 hown1 hg1 _
       have hbA:Below w.heap.size w w1:=(hb.alloc hsz _).grown hg1 (by simp;omega) (fun j hj=>(hown.lt j hj).1)
       have hc1:=(hbA.cell (p:=⟨b,off + k * 2,none⟩) hbl).trans Hw1.out
       have hc2:=(hbA.cell (p:=⟨b,off + k * 2 + 1,none⟩) hbl).trans Hw2.out
       clear hg1 hb hown
       have hszA:=hbA.size
       go_wp2_with fail
       refine (refUint_at _ x.2.length _ rfl (by omega)).mono ?_
       rintro e w2 ⟨v2,rfl,ho2,hb2⟩
       have hbB:Below w.heap.size w w2:=hbA.trans (hb2.mono hszA)
       have hown2:=hown1.new hb2
       have hszB:=hbB.size
       go_wp2_with (at_builtin;refine wpList_app8 rfl (.tmp 50) (.tmp 58) 33 rfl w.heap.size 5 i0 Tryz.underlying33 hi hz0 hz1 hz2 _ (out ++ [UInt8.ofNat x.1.toNat]) rfl hown2 _ (uint x.2.length) rfl ho2.bytes ?d2 hszB ?_)
       case d2=>simp;omega
       intro v3 w3 hown3 hg3 _
       have hbC:Below w.heap.size w w3:=hbB.grown hg3 hszB (fun j hj=>(hown2.lt j hj).1)
       have hc1:=(hbC.cell (p:=⟨b,off + k * 2,none⟩) hbl).trans Hw1.out
       have hc2:=(hbC.cell (p:=⟨b,off + k * 2 + 1,none⟩) hbl).trans Hw2.out
       have hszC:=hbC.size
       have hu3:=Hu.out.of_new hbC
       clear hg3 hb2 ho2 hown1 hown2 hbA hbB
       go_wp2_with (at_builtin;refine wpList_app8 rfl (.tmp 60) (.tmp 65) 33 rfl w.heap.size 5 i0 Tryz.underlying33 hi hz0 hz1 hz2 _ _ rfl hown3 _ x.2 rfl hu3 ?e2 hszC ?_)
       case e2=>simp;omega
       intro v4 w4 hown4 hg4 _
       have hbD:Below w.heap.size w w4:=hbC.grown hg4 hszC (fun j hj=>(hown3.lt j hj).1)
       have Heq2:=Heq.out
       rw [rencF,if_neg (by omega)] at Heq2
       clear hg4 hu3 hown3 hbC hc1 hc2
       simp only [List.append_assoc,List.cons_append,List.nil_append] at hown4 Heq2
       generalize out ++ UInt8.ofNat x.1.toNat :: (uint x.2.length ++ x.2) = out' at *
       obtain ⟨oa',oc',hoe⟩:=hown4.bytes.len
       subst hoe
       have Heq3:=Lib.hid Heq2
       clear Heq2 Heq
       by_cases hx4:(65536:Int) < out'.length
       ·go_wp2
        go_ret2
        exact enc_none (Heq3.out.trans (if_pos (by omega))) hbD
       ·go_wp2
        go_roundw
        case rel=>exact ⟨k + 1,x.1,out',hk1,by omega,by omega,by omega,rfl,by go_num,Heq3.out.trans (if_neg (by omega)),hown4,hbD⟩
        case measure=>simp [intOf];omega
   ·obtain ⟨oa,oc,rfl⟩:=hown.bytes.len
    have Heq:=Lib.hid heq
    clear heq
    go_wp2
    go_ret2
    exact enc_some (Heq.out.trans (by rw [List.drop_of_length_le (by omega)];rfl)) hb hown
end Go.Proofs.YtnohglkilpnjhaaGreatDoor
namespace Go.Proofs.YtnohglkilpnjhaaGreatDoor
open Go.RowKit
set_option maxRecDepth 100000
set_option maxHeartbeats 6400000 in
theorem REncImgO_any (v:Value) (l:List BlobL) (w:World) (hl:RBlob.Row w v l):Calls Tryz.prog 54 #[.agg #[v]] w (EncIPostO w l):=by
 obtain ⟨a,c,hv⟩:=hl.len
 subst hv
 have hle:=hl.le
 obtain ⟨W,hW⟩:∃ W,w.alloc (.cells #[.slice a l.length c] 52) = W:=⟨_,rfl⟩
 have ho:One W w.heap.size (.slice a l.length c) 52:=by rw [← hW];exact heap_alloc_new w _
 have hb:Below w.heap.size w W:=by rw [← hW];exact (Below.refl _ w).alloc (Nat.le_refl _) _
 have hc1:=ho.cell
 have hI:=RImage_any _ l W (hl.of_new hb)
 have HL:=Lib.hid (hl.of_new hb)
 have HO:=Lib.hid ho
 have HW:=Lib.hid hW
 have HB:=Lib.hid hb
 have HI:=Lib.hid hI
 have hls:=ho.lt
 clear hl ho hW hb hI
 obtain ⟨E,hE⟩:∃ E,imageE l = E:=⟨_,rfl⟩
 rw [hE] at HI
 have HE:=Lib.hid hE
 by_cases h0:E = 0
 case neg=>
  have HN:=Lib.hid (show imageE l ≠ 0 by rw [hE];exact h0)
  have t1:(E == 0) = false:=beq_eq_false_iff_ne.2 h0
  have t2:(E != 0) = true:=bne_iff_ne.2 h0
  clear hE h0
  go_enter Tryz.func54,Tryz.ntmps54
  go_upto_region 1 with (fail)
  rw [HW.out]
  go_wp2_with (go_at_call 92;refine HI.out.mono ?_;rintro e w2 ⟨rfl,hb2⟩;have HB2:=Lib.hid (below_next HB.out hb2);clear hb2)
  go_ret2
  rw [← HE.out]
  exact encG_bad HN.out HB2.out
 subst h0
 have HR:=Lib.hid (image_rights hE)
 have h16:l.length ≤ 16:=by
  unfold imageE at hE
  split at hE
  ·cases hE
  ·omega
 clear hE
 go_enter Tryz.func54,Tryz.ntmps54
 go_upto_region 1 with (fail)
 rw [HW.out]
 go_wp2_with (go_at_call 92;refine HI.out.mono ?_;rintro e w2 ⟨rfl,hb2⟩;have hc2:=Grew.cell hb2 hc1;have HB2:=Lib.hid (below_next HB.out hb2);have HL2:=Lib.hid (HL.out.of_new hb2);clear hb2)
 go_loopw [5,6,7,8,9] (fun lv iv _ _ _ W'=>EncIM w2 l lv iv W') (fun _ iv _ _ _ _=>l.length - (intOf iv).toNat)
 case atStart=>exact ⟨0,[],Nat.zero_le _,rfl,by simp [imgIts,imgItsF],rfl,OwnIt.nil _ _,Below.refl _ _⟩
 case round=>
  obtain ⟨k,its,hk,rfl,hit,hil,hown,hbr⟩:=hrel
  have hc3:=Grew.cell hbr hc2
  obtain ⟨la,lc,hv⟩:=hown.len
  subst hv
  by_cases hlt:k < l.length
  ·obtain ⟨b,off,c',hv,hbl,hc⟩:=HL2.out.at_ (by omega)
   obtain ⟨rfl,rfl⟩:a = some ⟨b,off,none⟩∧c = c':=by cases hv;exact ⟨rfl,rfl⟩
   obtain ⟨y,hy⟩:∃ y,l[k]? = some y:=⟨_,List.getElem?_eq_getElem hlt⟩
   have hat:=(hc k y hy).of_new hbr
   have hyo:=hat.1
   have hyr:=right_bd (HR.out y (List.mem_of_getElem? hy))
   have hki:(k:Int) < (l.length:Int):=by omega
   have hk16:(k:Int) ≤ 16:=by omega
   have hst:=imgIts_step hy
   obtain ⟨n,hn⟩:∃ n:Nat,y.size = (n:Int):=⟨y.size.toNat,by omega⟩
   obtain ⟨q,hq⟩:∃ q:Nat,y.piece = (q:Int):=⟨y.piece.toNat,by omega⟩
   have hnq:n ≤ 1048576∧q ≤ 1048576:=by omega
   have HY:=Lib.hid hy
   have HIT:=Lib.hid hit
   have HIL:=Lib.hid hil
   have HWN:=Lib.hid hown
   have HBR:=Lib.hid hbr
   have HAT:=Lib.hid hat
   have HYO:=Lib.hid hyo
   have HYR:=Lib.hid hyr
   have HST:=Lib.hid hst
   have HN:=Lib.hid hn
   have HQ:=Lib.hid hq
   have HNQ:=Lib.hid hnq
   clear hv hc hy hit hil hown hbr hat hyo hyr hst hn hq hnq
   go_upto_region 9 with (first
    | ((with_reducible refine wpList_plain (o:=⟨some 26,Op.load _ _,_,_,_,_⟩) rfl fun K hK=>?_);(refine HAT.out.wp rfl rfl (hK _ _ ?_)))
    | ((with_reducible refine wpList_plain (o:=⟨some 7,Op.alloc _,_,_,_,_⟩) rfl fun K hK=>?_);(refine RBlob.wp_alloc rfl fun w4 ho4 hb4 hs4=>hK _ _ ?_);have HO4:=Lib.hid ho4;have HB4:=Lib.hid hb4;clear ho4 hb4 hs4)
    | ((with_reducible refine wpList_plain (o:=⟨none,Op.store _ (.tmp 7) (.tmp 26),_,_,_,_⟩) rfl fun K hK=>?_);(refine HO4.out.store (.tmp 7) (.tmp 26) rfl rfl rfl HYO.out fun w5 ho5 hg5 hs5=>hK _ _ ?_);have hb5:=HB4.out.grown hg5 (by have:=HB4.out.size;omega) (fun k e=>by cases e;exact Nat.le_refl _);have HO5:=Lib.hid ho5;have HB5:=Lib.hid hb5;clear ho5 hg5 hs5 hb5))
   have hyO:=HO5.out.blobO
   have c32:=hyO.size
   have c33:=hyO.piece
   rw [HN.out] at c32
   rw [HQ.out] at c33
   have hwn:IntKind.u64.wrap (n:Int) = (n:Int):=by have:=HNQ.out;simp [IntKind.wrap,IntKind.bits,IntKind.signed];omega
   have hwq:IntKind.u64.wrap (q:Int) = (q:Int):=by have:=HNQ.out;simp [IntKind.wrap,IntKind.bits,IntKind.signed];omega
   have hbx:=Below.refl w5.heap.size w5
   have hn64:n < 18446744073709551616:=by have:=HNQ.out;omega
   have hq64:q < 18446744073709551616:=by have:=HNQ.out;omega
   have hls5:=HO5.out.lt
   have HD5:=Lib.hid hyO.dig.bytes
   have HR5:=Lib.hid hyO.root.bytes
   have hits:blobIts y = [(1,y.dig),(2,uint n),(3,uint q),(4,y.root)]:=by unfold blobIts;rw [HN.out,HQ.out];rfl
   have hyr:=HYR.out
   have henc:rencL (blobIts y) = some (blobB y):=(rencL_eq _).trans (enc_blob HYO.out ⟨by omega,by omega⟩ ⟨by omega,by omega⟩)
   rw [hits] at henc
   have HEN:=Lib.hid henc
   clear hyO hits hyr henc
   go_upto_region 9 with (fail)
   try simp only [Act.put]
   try go_frame
   go_cut [8] (fun v8 W'=>Own8 W' w5.heap.size 5 v8 (blobB y)∧Below w5.heap.size w5 W')
   case first=>
    go_region_with (first
     | (go_at_call 89;(with_reducible refine (refUint_at _ n _ rfl hn64).mono ?_);rintro e w6 ⟨v6,rfl,ho6,hb6⟩;obtain ⟨a6,c6,hv6⟩:=ho6.bytes.len;subst hv6;(try replace c32:=Grew.cell hb6 c32);(try replace c33:=Grew.cell hb6 c33);(try replace ho7:=ho7.new hb6);(first | replace hbx:=below_next hbx.drew hb6 | replace hbx:=below_next hbx hb6))
     | (go_at_call 89;(with_reducible refine (refUint_at _ q _ rfl hq64).mono ?_);rintro e w7 ⟨v7,rfl,ho7,hb7⟩;obtain ⟨a7,c7,hv7⟩:=ho7.bytes.len;subst hv7;(try replace c32:=Grew.cell hb7 c32);(try replace c33:=Grew.cell hb7 c33);(try replace ho6:=ho6.new hb7);(first | replace hbx:=below_next hbx.drew hb7 | replace hbx:=below_next hbx hb7))
     | (go_at_call 46;refine (refEncode_any _ [(1,y.dig),(2,uint n),(3,uint q),(4,y.root)] _ (by exact items_four (HD5.out.of_new hbx) ho6.bytes ho7.bytes (HR5.out.of_new hbx))).mono ?_;intro e w9 hp;rw [HEN.out] at hp;obtain ⟨hb9,v9,rfl,ho9⟩:=hp))
    all_goals
     go_wp2_with fail
     go_meet
     have hz:=hbx.size
     exact ⟨ho9.mono (by simp [World.drew];omega),below_next (hbx.alloc hz _) hb9⟩
   case rest=>
    rename World=>w9
    obtain ⟨ho9,hb9⟩:=hcut
    have hlo:=ho9.lt
    have HB9:=Lib.hid (below_next HB5.out hb9)
    have HB5s:=Lib.hid HB5.out.size
    obtain ⟨a10,c10,hv⟩:=ho9.bytes.len
    subst hv
    have HV9:=Lib.hid ho9.bytes
    have HLO:=Lib.hid hlo
    have hs6:=HB5.out.size
    have hs9:=HB9.out.size
    have hsr:=HBR.out.size
    clear hb9 ho9 hlo c32 c33 hbx hwn hwq
    go_wp2_with (first
     | ((with_reducible refine wpList_plain (o:=⟨some 54,_,_,_,_,_⟩) rfl fun K hK=>?_);refine wp_appIt (.tmp 48) (.tmp 53) rfl w2.heap.size _ its (((k:Int) + 1,blobB y),.slice a10 (blobB y).length c10) w9.heap.size rfl ((HWN.out.of_new HB9.out).of_new ((Below.refl _ w9).alloc (Nat.le_refl _) _)) rfl (HV9.out.of_new ((Below.refl _ w9).alloc (Nat.le_refl _) _)) (fun z hz=>⟨by have:=(HLO.out z hz).2;simp;omega,fun e=>by have:=(HWN.out.lt z e).2;have:=(HLO.out z hz).1;omega⟩) (heap_alloc_new w9 _) (by have:=HIL.out;omega) (by simp;omega) ?_;intro v11 w11 ho11 hg11 hn11;refine hK _ _ ?_;obtain ⟨a11,c11,hv11⟩:=ho11.len;subst hv11;have HO11:=Lib.hid ho11;have HG11:=Lib.hid hg11;clear ho11 hg11 hn11 hK))
    go_roundw
    case rel=>
     refine ⟨k + 1,its ++ [(((k:Int) + 1,blobB y),.slice a10 (blobB y).length c10)],by omega,by go_num,?_,by have:=HIL.out;simp;omega,by have h:=HO11.out;rw [List.length_append,List.length_singleton] at h;exact h,(below_next HBR.out ((HB9.out).alloc HB9.out.size _)).grown HG11.out (by simp;omega) (fun z hz=>(HWN.out.lt z hz).1)⟩
     rw [List.map_append,HIT.out,HST.out]
     rfl
    case measure=>simp [intOf];omega
  ·obtain rfl:k = l.length:=by omega
   rw [List.take_length] at hit
   have hI:=hown.items
   rw [hit] at hI
   have hEn:=refEncode_any _ _ wr hI
   rw [rencL_eq] at hEn
   have hc4:=hc3
   have HEn:=Lib.hid hEn
   have HBR:=Lib.hid (below_next HB2.out hbr)
   clear hI hit hil hown hEn hbr
   go_wp2_with fail
   refine HEn.out.mono ?_
   intro e w4 hp
   have hq:=encG_post HE.out hp HBR.out
   obtain ⟨v4,rfl,hv4,hb4⟩:=hq
   have HV4:=Lib.hid hv4
   have HB4:=Lib.hid hb4
   clear hp hv4 hb4
   go_wp2
   go_ret2
   exact ⟨_,rfl,HV4.out,HB4.out⟩
theorem REncImg_any (v:Value) (l:List BlobL) (w:World) (hl:RBlob.Row w v l):Calls Tryz.prog 54 #[.agg #[v]] w (EncIPost w l):=(REncImgO_any v l w hl).mono fun _ _ h=>h.post
end Go.Proofs.YtnohglkilpnjhaaGreatDoor
namespace Go.Proofs.YtnohglkilpnjhaaGreatDoor
open Go.RowKit
set_option maxRecDepth 100000 in
set_option maxHeartbeats 800000 in
theorem Clone_any (v:Value) (l:List UInt8) (w:World) (hl:Bytes w v l) (hlen:l.length ≤ 140737488355328) :
  Calls Tryz.prog 36 #[v] w fun e w'=>∃ v',e = .returned v'∧Own8 w' w.heap.size 5 v' l∧Below w.heap.size w w':=by
 obtain ⟨i0,hi,hz0,hz1,hz2⟩:=info_parts infoU8
 obtain ⟨a,c,hv⟩:=hl.len
 cases a with
 | none=>
  have hl0:l = []:=by
   obtain ⟨_,a',c',hv',h1,_,h3,_⟩:=hl
   rw [hv'] at hv;cases hv
   have:=h3 rfl
   exact List.eq_nil_of_length_eq_zero (by omega)
  subst hl0
  have hc:c = 0:=by
   obtain ⟨_,a',c',hv',h1,_,h3,_⟩:=hl
   rw [hv'] at hv;cases hv
   exact h3 rfl
  subst hc
  subst hv
  have he:=fun (w:World) (a:Option Addr) (n c:Nat)=>Lib.run_eql_slice_nil (P:=Tryz.prog) w 33 5 a n c 0 0 Tryz.underlying33
  go_enter Tryz.func36,Tryz.ntmps36
  go_wp2
  go_ret
  exact ⟨_,rfl,Own8.nil _ _ _,Below.refl _ _⟩
 | some a=>
  subst hv
  have he:=fun (w:World) (a:Option Addr) (n c:Nat)=>Lib.run_eql_slice_nil (P:=Tryz.prog) w 33 5 a n c 0 0 Tryz.underlying33
  have hown0:Own8 (w.alloc (.cells #[] 5)) w.heap.size 5 (.slice (some ⟨w.heap.size,0,none⟩) 0 0) []:=World.ownsRow_made w #[] 0 (Nat.le_refl _) (by unfold maxLen;omega) rfl
  have hl0:=hl.of_alloc (.cells #[] 5)
  have HO:=Lib.hid hown0
  have HL:=Lib.hid hl0
  clear hown0 hl0 hl
  go_enter Tryz.func36,Tryz.ntmps36
  go_wp2_with (at_builtin;refine wpList_app8 rfl (.tmp 5) (.tmp 6) 33 rfl w.heap.size 5 i0 Tryz.underlying33 hi hz0 hz1 hz2 _ [] rfl HO.out _ l rfl HL.out ?c1 ?c2 ?_)
  case c1=>first | omega | (simp;omega)
  case c2=>simp
  intro v1 w1 hown1 hg1 _
  have hbA:Below w.heap.size w w1:=((Below.refl _ w).alloc (Nat.le_refl _) _).grown hg1 (by simp) (fun j hj=>(HO.out.lt j hj).1)
  clear hg1
  go_wp2
  go_ret
  exact ⟨_,rfl,by simpa using hown1,hbA⟩
def earlyOp (o:Oper):Bool:=o.guard.isNone && match o.op with
 | .move _ | .load .. | .indexAddr .. | .fieldAddr .. | .convert .. | .slice .. | .extract .. | .nilCheck _=>true
 | _=>false
theorem only_value {P:Program} {w w':World} {s:Sem Value} {r:Next} (h:(do pure (Next.value (← s)):Sem Next).run P w = .ok r w'):∃ u,r = .value u:=by
 simp only [Sem.run_bind] at h
 generalize s.run P w = q at h
 cases q with
 | ok x w2=>simp [Sem.run_pure,Result.andThen] at h;exact ⟨x,h.1.symm⟩
 | halt x w2=>simp [Result.andThen] at h
theorem early_value {P:Program} {o:Oper} {ρ:Operand→Value} {w w':World} {r:Next} (h:earlyOp o = true) (hr:(execOp ρ o).run P w = .ok r w'):∃ u,r = .value u:=by
 unfold earlyOp at h
 unfold execOp at hr
 cases ho:o.op <;> simp [ho] at h <;> simp only [ho] at hr
 case move=>simp [Sem.run_pure] at hr;exact ⟨_,hr.1.symm⟩
 case nilCheck x=>
  split at hr
  all_goals first
   | exact only_value hr
   | (simp [Sem.run_pure] at hr;exact ⟨_,hr.1.symm⟩)
   | (simp [go_sem] at hr)
   | skip
  split at hr
  ·simp [go_sem] at hr
  ·simp only [Sem.run_bind] at hr
   generalize Sem.run P _ w = q0 at hr
   cases q0 with
   | halt x2 w2=>simp [Result.andThen] at hr
   | ok pp w2=>
    simp only [Result.andThen] at hr
    generalize Sem.run P _ w2 = q at hr
    cases q with
    | halt x2 w2=>simp [Result.andThen] at hr
    | ok b w3=>
     simp only [Result.andThen] at hr
     split at hr
     ·simp [go_sem,Sem.run_bind,Result.andThen] at hr;exact ⟨_,hr.1.symm⟩
     ·simp [go_sem,Sem.run_pure,Sem.run_bind,Result.andThen] at hr
  ·simp [Sem.run_pure] at hr;exact ⟨_,hr.1.symm⟩
 all_goals exact only_value hr
section
variable {ro:Option Nat} {m:Nat} {P:Program} {ops:Array Oper} {md:Region.Mode} {C:World→Prop} {D:Nat→Bool} {Q:Exit→Act→World→Prop}
inductive WaitsT (md:Region.Mode) (ops:Array Oper) (i:Nat):Nat→Prop
 | one {j:Nat}:Region.waitsFor md ops j i = true→WaitsT md ops i j
 | more {j k:Nat}:Region.waitsFor md ops j k = true→WaitsT md ops i k→WaitsT md ops i j
def waitsB (md:Region.Mode) (ops:Array Oper) (i:Nat):Nat→Nat→Bool
 | 0,_=>false
 | f + 1,j=>Region.waitsFor md ops j i || (List.range ops.size).any fun k=>Region.waitsFor md ops j k && waitsB md ops i f k
theorem waitsB_spec {i:Nat}:∀ (f j:Nat),waitsB md ops i f j = true→WaitsT md ops i j
 | 0,_,h=>by simp [waitsB] at h
 | f + 1,j,h=>by
  simp only [waitsB,Bool.or_eq_true,List.any_eq_true,Bool.and_eq_true] at h
  rcases h with h | ⟨k,_,h1,h2⟩
  ·exact .one h
  ·exact .more h1 (waitsB_spec f k h2)
def ClosedL (md:Region.Mode) (ops:Array Oper) (listed:Array Bool):Prop:=
 ∀ j oj,ops[j]? = some oj→listed.getD j false = true→∀ e ∈ oj.after,Region.binds md e = true→listed.getD e.on false = true
theorem not_ready {listed:Array Bool} {i j:Nat} (hcl:ClosedL md ops listed) (hi:listed.getD i false = false) (hw:WaitsT md ops i j):j ∉ Region.ready md ops listed∧listed.getD j false = false:=by
 induction hw with
 | @one j h=>
  obtain ⟨oj,hoj,e,he,hb,hon⟩:=Region.waitsFor_spec h
  refine ⟨fun hr=>?_,?_⟩
  ·obtain ⟨_,oj',hoj',hall⟩:=mem_ready.1 hr
   rw [hoj] at hoj'
   cases hoj'
   have:=hall e he hb
   rw [hon,hi] at this
   cases this
  ·cases hl:listed.getD j false with
   | false=>rfl
   | true=>
    have:=hcl j oj hoj hl e he hb
    rw [hon,hi] at this
    cases this
 | @more j k h _ ih=>
  obtain ⟨oj,hoj,e,he,hb,hon⟩:=Region.waitsFor_spec h
  refine ⟨fun hr=>?_,?_⟩
  ·obtain ⟨_,oj',hoj',hall⟩:=mem_ready.1 hr
   rw [hoj] at hoj'
   cases hoj'
   have:=hall e he hb
   rw [hon,ih.2] at this
   cases this
  ·cases hl:listed.getD j false with
   | false=>rfl
   | true=>
    have:=hcl j oj hoj hl e he hb
    rw [hon,ih.2] at this
    cases this
theorem ClosedL.set {listed:Array Bool} {j:Nat} (hcl:ClosedL md ops listed) (hj:j ∈ Region.ready md ops listed) (hsz:listed.size = ops.size):ClosedL md ops (listed.setIfInBounds j true):=by
 intro k ok hk hl e he hb
 have keep:∀ x,listed.getD x false = true→(listed.setIfInBounds j true).getD x false = true:=fun x hx=>by
  by_cases q:j = x
  ·subst q
   have hlt:j < listed.size:=by
    rcases Nat.lt_or_ge j listed.size with h | h
    ·exact h
    ·simp [Array.getElem?_eq_none h] at hx
   simp [hlt]
  ·rw [getD_set_ne false q];exact hx
 obtain ⟨_,oj,hoj,hall⟩:=mem_ready.1 hj
 by_cases q:j = k
 ·subst q
  rw [hoj] at hk
  cases hk
  exact keep _ (hall e he hb)
 ·rw [getD_set_ne false q] at hl
  exact keep _ (hcl k ok hk hl e he hb)
theorem wpAnyS_take {i:Nat} {oi:Oper} {v:Value} (hnd:noDefer ops = true) (hi:ops[i]? = some oi) (hsel:∀ (j:Nat) (o:Oper) cs b,ops[j]? = some o→o.op ≠ .select cs b)
  (hQ:∀ c (a:Act) (d:Option Tmp) (v:Value) w,Q (.panic c) (a.put d v) w→Q (.panic c) a w) (hDi:∀ j,D j = true→WaitsT md ops i j) :
  ∀ (fuel:Nat) (listed:Array Bool) (a:Act) (w:World),listed.size = ops.size→ClosedL md ops listed →
   (∀ j oj,ops[j]? = some oj→j ≠ i→listed.getD j true = false→(∀ e ∈ oj.after,Region.binds md e = true→e.on ≠ i)→oi.apart ops oj = true) →
   i ∈ Region.ready md ops listed→StillIn P ops C oi v a→C w →
   wpAnyS ro m P md ops C D Q fuel (listed.setIfInBounds i true) (a.put oi.dst v) w→wpAnyS ro m P md ops C D Q (fuel + 1) listed a w:=by
 intro fuel
 induction fuel with
 | zero=>
  intro listed a w _ _ _ hr hy hC H
  refine ⟨fun h=>(by rw [h] at hr;cases hr),fun j hj=>?_⟩
  by_cases hji:j = i
  ·subst hji;exact hy.wpOpIn hnd hi hC ⟨fun _=>hC,H⟩
  ·have:=ready_mono hj hji
   rw [H.1] at this
   cases this
 | succ fuel ih=>
  intro listed a w hsz hcl hfree hr hy hC H
  refine ⟨fun h=>(by rw [h] at hr;cases hr),fun j hj=>?_⟩
  by_cases hji:j = i
  ·subst hji;exact hy.wpOpIn hnd hi hC ⟨fun _=>hC,H⟩
  ·have h1:=H.2 j (ready_mono hj hji)
   obtain ⟨hjun,oj,hoj,hall⟩:=mem_ready.1 hj
   have h0:=(mem_ready.1 hr).1
   have h0f:listed.getD i false = false:=getD_both h0
   have hnot:∀ e ∈ oj.after,Region.binds md e = true→e.on ≠ i:=fun e he hb heq=>by
    have h1:=hall e he hb
    rw [heq,h0f] at h1
    cases h1
   have hDj:D j = false:=by
    cases hd:D j with
    | false=>rfl
    | true=>exact absurd hj (not_ready hcl h0f (hDi j hd)).1
   have h2:=wpOpIn_putS (C:=C) hnd hoj (hfree j oj hoj hji hjun hnot) (fun cs b=>hsel i oi cs b hi) (fun cs b=>hsel j oj cs b hoj) (fun c a w h=>hQ c _ _ _ w h) hy h1
   have hfree':∀ k ok,ops[k]? = some ok→k ≠ i→(listed.setIfInBounds j true).getD k true = false →
     (∀ e ∈ ok.after,Region.binds md e = true→e.on ≠ i)→oi.apart ops ok = true:=fun k ok hk hki hun hno=>by
    refine hfree k ok hk hki ?_ hno
    by_cases hjk:j = k
    ·subst hjk;exact hjun
    ·rw [getD_set_ne true hjk] at hun;exact hun
   refine wpOpIn_mono (fun a' w' h3=>⟨h3.2.1,ih (listed.setIfInBounds j true) a' w' (by simpa using hsz) (hcl.set hj hsz) hfree' (ready_mono hr (Ne.symm hji)) h3.1 (h3.2.1 hDj) ?_⟩) h2
   rw [Array.setIfInBounds_comm _ _ hji]
   exact h3.2.2
def LateL (ro:Option Nat) (m:Nat) (P:Program) (ops:Array Oper) (C:World→Prop) (Q:Exit→Act→World→Prop):List Oper→List Oper→Act→World→Prop
 | [],rest,a,w=>wpListIn (WF ro) m P ops Q rest a w
 | o :: mid,rest,a,w=>if Region.wanted o (yielded ops a.tmps) then o.wp P a w (fun a' w'=>C w'∧LateL ro m P ops C Q mid rest a' w') Q else LateL ro m P ops C Q mid rest (a.put o.dst undef) w
theorem LateL.nil {rest:List Oper} {a:Act} {w:World} (h:wpListIn (WF ro) m P ops Q rest a w):LateL ro m P ops C Q [] rest a w:=h
theorem LateL.cons {o:Oper} {mid rest:List Oper} {a:Act} {w:World} (hg:o.guard = none) (h:o.wp P a w (fun a' w'=>C w'∧LateL ro m P ops C Q mid rest a' w') Q):LateL ro m P ops C Q (o :: mid) rest a w:=by
 unfold LateL
 rw [if_pos (by simp [Region.wanted,hg])]
 exact h
end
end Go.Proofs.YtnohglkilpnjhaaGreatDoor
namespace Go.Proofs.YtnohglkilpnjhaaGreatDoor
open Go.RowKit Go.Shelf
attribute [local go_sem] Oper.semAt_some
theorem Bytes.back {w w2:World} {v:Value} {l:List UInt8} (h:Bytes w2 v l) (hb:Below w.heap.size w w2) (hk:∀ k,v.ownBlock = some k→k < w.heap.size):Bytes w v l:=by
 obtain ⟨h1,a,c,rfl,h2,h3,h4,h5⟩:=h
 refine ⟨h1,a,c,rfl,h2,h3,h4,fun hne=>?_⟩
 obtain ⟨b,off,rfl,hb2,hc⟩:=h5 hne
 have hlt:=hk b rfl
 exact ⟨b,off,rfl,hlt,fun j hj=>by rw [← hc j hj];exact (hb.cell (p:=⟨b,off + j,none⟩) hlt).symm⟩
theorem Bytes.blk {w:World} {v:Value} {l:List UInt8} (h:Bytes w v l) (h0:0 < l.length):∀ k,v.ownBlock = some k→k < w.heap.size:=fun k e=>by
 obtain ⟨b,off,c,rfl,hb,_⟩:=h.cell h0
 cases e
 exact hb
attribute [local go_sem] Oper.semAt_some
def OwnI (w:World) (base:Nat) (v:Value) (l:List ItV):Prop:=w.ownsRow base 110 2 v l.length (flatI l)∧∀ x ∈ l,Own8 w base 5 x.2 x.1.2
theorem OwnI.nil (w:World) (base:Nat):OwnI w base (.slice none 0 0) []:=⟨World.ownsRow_nil _ _ _ _,fun _ h=>by cases h⟩
theorem OwnI.lt {w:World} {base:Nat} {v:Value} {l:List ItV} (h:OwnI w base v l):∀ k,v.ownBlock = some k→base ≤ k∧k < w.heap.size:=World.ownsRow.lt h.1
theorem OwnI.len {w:World} {base:Nat} {v:Value} {l:List ItV} (h:OwnI w base v l):∃ a c,v = .slice a l.length c:=by
 rcases h.1.2 with ⟨h1,h2⟩ | ⟨g,cap,cur,rfl,_⟩
 ·rw [h1,show l.length = 0 by omega];exact ⟨_,_,rfl⟩
 ·exact ⟨_,_,rfl⟩
theorem OwnI.items {w:World} {base:Nat} {v:Value} {l:List ItV} (h:OwnI w base v l):Items w v (l.map (·.1)):=by
 obtain ⟨h1,a,c,rfl,h2,h3,h4,h5⟩:=Row.of_owns h.1
 refine ⟨a,c,by simp,by simpa using h2,h3,h4,fun h0=>?_⟩
 have h0':0 < l.length:=by simpa using h0
 obtain ⟨b,off,rfl,hb,hc⟩:=h5 (by omega)
 refine ⟨b,off,rfl,hb,fun i hi=>?_⟩
 have hi':i < l.length:=by simpa using hi
 obtain ⟨f1,f2⟩:=flatI_at hi'
 have e:(l.map (·.1)).getD i (0,[]) = (l.getD i ((0,[]),undef)).1:=by simp [List.getD,hi']
 rw [e]
 refine ⟨(hc _ (by omega)).trans f1,_,(by rw [Nat.add_assoc];exact (hc _ (by omega)).trans f2),?_⟩
 have hm:l.getD i ((0,[]),undef) ∈ l:=by
  rw [List.getD_eq_getElem?_getD,List.getElem?_eq_getElem hi'];exact List.getElem_mem hi'
 exact (h.2 _ hm).bytes
theorem Own8.blk {w w':World} {base e:Nat} {v:Value} {l:List UInt8} (h:Own8 w base e v l) (hk:∀ k,v.ownBlock = some k→w'.heap[k]? = w.heap[k]?):Own8 w' base e v l:=by
 refine ⟨h.1,?_⟩
 rcases h.2 with h | ⟨g,cap,cur,hv,hb,hh,hr⟩
 ·exact .inl h
 ·exact .inr ⟨g,cap,cur,hv,hb,(hk g (by rw [hv];rfl)).trans hh,hr⟩
theorem OwnI.keep {w w':World} {base:Nat} {v:Value} {l:List ItV} (h:OwnI w base v l) (hk:∀ k,base ≤ k→k < w.heap.size→w'.heap[k]? = w.heap[k]?):OwnI w' base v l:=by
 refine ⟨⟨h.1.1,?_⟩,fun x hx=>(h.2 x hx).blk fun k hk2=>hk k ((h.2 x hx).lt k hk2).1 ((h.2 x hx).lt k hk2).2⟩
 rcases h.1.2 with h2 | ⟨g,cap,cur,hv,hb,hh,hr⟩
 ·exact .inl h2
 ·exact .inr ⟨g,cap,cur,hv,hb,(hk g hb (Array.getElem?_eq_some_iff.1 hh).1).trans hh,hr⟩
def DecPost (w:World) (r:Option (List It)) (e:Ending) (w':World):Prop:=
 ∃ v,e = .returned (.tuple #[v,.int .i64 (if r.isSome then 0 else 2)])∧Items w' v (r.getD [])∧Below w.heap.size w w'
def DecPostO (w:World) (r:Option (List It)) (e:Ending) (w':World):Prop:=
 ∃ v pre base,e = .returned (.tuple #[v,.int .i64 (if r.isSome then 0 else 2)])∧OwnI w' base v pre∧pre.map (·.1) = r.getD []∧Below w.heap.size w w'∧w.heap.size ≤ base
theorem DecPostO.post {w:World} {r:Option (List It)} {e:Ending} {w':World} (h:DecPostO w r e w'):DecPost w r e w':=by
 obtain ⟨v,pre,base,h1,h2,h3,h4,_⟩:=h
 exact ⟨v,h1,h3 ▸ h2.items,h4⟩
def DecI (w:World) (b:List UInt8) (pre:List ItV) (W:World):Prop:=
 ∃ (ov:Value),One W (w.heap.size + 2) ov 111∧One W (w.heap.size + 3) (.int .i64 (lastN (pre.map (·.1)) 0)) 3∧One W w.heap.size (.slice none 0 0) 111∧One W (w.heap.size + 1) (.int .i64 0) 26 ∧
  OwnI W (w.heap.size + 7) ov pre∧checkF (pre.map (·.1)) 0 = some (pre.map (·.1))∧Below w.heap.size w W∧w.heap.size + 5 ≤ W.heap.size
def DecX (w:World) (b:List UInt8) (c:Code) (pre:List ItV) (W:World):Prop:=
 c = .ret∧One W w.heap.size (.slice none 0 0) 111∧One W (w.heap.size + 1) (.int .i64 2) 26∧checkF (itemsL b) 0 = none∧Below w.heap.size w W∧w.heap.size + 5 ≤ W.heap.size
theorem DecI.keep {w:World} {b:List UInt8} {pre:List ItV} {A B:World} (h:DecI w b pre A) (hk:Kept (fun k=>k ≠ w.heap.size + 4∧k ≠ w.heap.size + 6) A B):DecI w b pre B:=by
 obtain ⟨ov,h1,h2,h3,h4,h5,h6,h7,h8⟩:=h
 exact ⟨ov,h1.of_block (hk.block _ h1.lt (by omega)),h2.of_block (hk.block _ h2.lt (by omega)),h3.of_block (hk.block _ h3.lt (by omega)),h4.of_block (hk.block _ h4.lt (by omega)),
  h5.keep (fun k h1 h2=>hk.block k h2 (by omega)),h6,hk.to_below h7 (by omega) (fun k hk2=>by omega),Nat.le_trans h8 hk.size⟩
theorem DecX.keep {w:World} {b:List UInt8} {c:Code} {pre:List ItV} {A B:World} (h:DecX w b c pre A) (hk:Kept (fun k=>k ≠ w.heap.size + 4∧k ≠ w.heap.size + 6) A B):DecX w b c pre B:=by
 obtain ⟨h0,h1,h2,h3,h7,h8⟩:=h
 exact ⟨h0,h1.of_block (hk.block _ h1.lt (by omega)),h2.of_block (hk.block _ h2.lt (by omega)),h3,hk.to_below h7 (by omega) (fun k hk2=>by omega),Nat.le_trans h8 hk.size⟩
end Go.Proofs.YtnohglkilpnjhaaGreatDoor
namespace Go.Proofs.YtnohglkilpnjhaaGreatDoor
open Go.RowKit
theorem wrap_u64 {n:Int} (h0:0 ≤ n) (h1:n < 18446744073709551616):IntKind.u64.wrap n = n:=by simp [IntKind.wrap,IntKind.bits,IntKind.signed];omega
end Go.Proofs.YtnohglkilpnjhaaGreatDoor
namespace Go.Proofs.YtnohglkilpnjhaaGreatDoor
open Go.RowKit
set_option maxRecDepth 100000
theorem Bytes.dig5 {w:World} {v:Value} {l:List UInt8} (h:Bytes w v l) (h32:l.length = 32):∃ g off c,v = .slice (some ⟨g,off,none⟩) 32 c∧DigAt w g off l:=by
 obtain ⟨g,off,c,hv,_,hc⟩:=h.cell (by omega)
 exact ⟨g,off,c,by rw [hv,h32],h32,fun j hj=>by rw [hc j (by omega)];simp [List.getElem?_eq_getElem (show j < l.length by omega),List.getD]⟩
def RImg:RecT 52 Value where
 n:=1
 bytes:=24
 zero:=.slice none 0 0
 cells:=fun v=>[v]
 ok:=fun v=>v.oneCell' = true
 pos:=by decide
 small:=by decide
 few:=by decide
 zok:=rfl
 len:=fun _=>rfl
 one:=fun {x} h v hv=>by simp at hv;rw [hv];exact h
 agg:=⟨_,Tryz.underlying52,rfl⟩
 info:=by kernel_rfl
theorem RImg_one {w:World} {g:Nat} {v:Value} (h:RImg.O w g v):One w g v 52:=h.1
theorem one_RImg {w:World} {g:Nat} {v:Value} (h:One w g v 52) (hv:v.oneCell' = true):RImg.O w g v:=⟨h,hv⟩
theorem build_img0 (w:World):(Instr.build 52 #[]).run Tryz.prog w = .ok (.agg #[.slice none 0 0]) w:=by kernel_rfl
def nameL (l:List BlobL):List UInt8:=if encGE l = 0 then sumL ((encG l).getD []) else dig0
theorem encG_len (l:List BlobL):((encG l).getD []).length ≤ 1099511627776:=by
 cases h:encG l with
 | none=>simp
 | some c=>
  unfold encG at h
  split at h
  ·have:=encL_le h;simp;omega
  ·cases h
theorem build_dig0 (w:World):(Instr.build 31 #[]).run Tryz.prog w = .ok (.agg (dig0.map B8).toArray) w:=by kernel_rfl
def NamePost (w:World) (l:List BlobL) (e:Ending) (w':World):Prop:=e = .returned (.tuple #[.agg ((nameL l).map B8).toArray,.int .i64 (encGE l)])∧Below w.heap.size w w'
theorem name_ok {w w':World} {l:List BlobL} {E:Int} (h:encGE l = E) (h0:E = 0) (hb:Below w.heap.size w w'):NamePost w l (.returned (.tuple #[.agg ((sumL ((encG l).getD [])).map B8).toArray,.int .i64 0])) w':=by
 subst h0
 exact ⟨by unfold nameL;rw [if_pos h,h],hb⟩
theorem name_bad {w w':World} {l:List BlobL} {E:Int} (h:encGE l = E) (h0:E ≠ 0) (hb:Below w.heap.size w w'):NamePost w l (.returned (.tuple #[.agg (dig0.map B8).toArray,.int .i64 E])) w':=by
 subst h
 exact ⟨by unfold nameL;rw [if_neg h0],hb⟩
set_option maxHeartbeats 3200000 in
theorem Name_any (v:Value) (l:List BlobL) (w:World) (hl:RBlob.Row w v l) (hK:Consts w):Calls Tryz.prog 37 #[.agg #[v]] w (NamePost w l):=by
 obtain ⟨a,c,hv⟩:=hl.len
 subst hv
 have hle:=hl.le
 obtain ⟨W,hW⟩:∃ W,w.alloc (.cells #[.slice a l.length c] 52) = W:=⟨_,rfl⟩
 have ho:RImg.O W w.heap.size (.slice a l.length c):=by rw [← hW];exact ⟨heap_alloc_new w _,rfl⟩
 have hb:Below w.heap.size w W:=by rw [← hW];exact (Below.refl _ w).alloc (Nat.le_refl _) _
 have hE:=fun W' h=>EncImg_any (.slice a l.length c) l W' h
 obtain ⟨E,hEE⟩:∃ E,encGE l = E:=⟨_,rfl⟩
 have HL:=Lib.hid (hl.of_new hb)
 have HO:=Lib.hid ho
 have HW:=Lib.hid hW
 have HB:=Lib.hid hb
 have HE:=Lib.hid hE
 have HEE:=Lib.hid hEE
 have HKW:=Lib.hid (hK.of_new hb)
 have HS:=Lib.hid (fun v W' h hk=>Sum_any v ((encG l).getD []) W' h (encG_len l) hk)
 clear hl ho hW hb hE hEE hK
 go_enter Tryz.func37,Tryz.ntmps37
 go_upto_region 1 with (first
  | ((with_reducible refine wpList_plain (o:=⟨some 2,Op.alloc _,_,_,_,_⟩) rfl fun K hK=>?_);rw [HW.out];(refine wp_alloc_dig rfl fun w1 ho1 hb1 hs1=>hK _ _ ?_);have HO1:=Lib.hid ho1;have HB1:=Lib.hid (below_next HB.out hb1);have HI1:=Lib.hid (HO.out.of_new hb1);have HL1:=Lib.hid (HL.out.of_new hb1);have HK1:=Lib.hid (HKW.out.of_new hb1);have hs1':w.heap.size < W.heap.size:=HO.out.lt;clear ho1 hb1 hs1))
 go_upto_region 2 with (first
  | ((with_reducible refine wpList_plain (o:=⟨some 7,Op.load _ _,_,_,_,_⟩) rfl fun K hK=>?_);(refine HI1.out.at_.wp rfl rfl (hK _ _ ?_)))
  | (go_at_call 77;refine (HE.out _ HL1.out).mono ?_;rintro e w2 ⟨v2,rfl,hbv,hb2⟩;have HV:=Lib.hid hbv;have HO2:=Lib.hid (HO1.out.of_new hb2);have HB2:=Lib.hid (below_next HB1.out hb2);have HK2:=Lib.hid (HK1.out.of_new hb2);clear hbv hb2))
 rw [HEE.out]
 by_cases h0:E = 0
 ·have HH:=Lib.hid h0
  subst h0
  go_wp2_with (first
   | (go_at_call 73;refine (HS.out _ _ HV.out HK2.out).mono ?_;rintro e w3 ⟨rfl,hb3⟩;have HO3:=Lib.hid (HO2.out.of_new hb3);have HB3:=Lib.hid (below_next HB2.out hb3);clear hb3)
   | ((with_reducible refine wpList_plain (o:=⟨none,Op.store _ (.tmp 2) (.tmp 16),_,_,_,_⟩) rfl fun K hK=>?_);(refine wp_store_digO (.tmp 2) (.tmp 16) W.heap.size (sumL ((encG l).getD [])) dig0 rfl rfl rfl (sumL_len _) HO3.out fun w4 ho4 hg4 hs4=>hK _ _ ?_);have HO4:=Lib.hid ho4;have HG4:=Lib.hid hg4;clear ho4 hg4 hs4))
  refine bodyPost_ret (results_dig_tmp rfl _ rfl rfl HO4.out) rfl ?_
  exact name_ok HEE.out rfl (HB3.out.grown HG4.out (by have:=HB3.out.size;omega) (fun k e=>by cases e;omega))
 ·have t1:(E == 0) = false:=beq_eq_false_iff_ne.2 h0
  have t2:(E != 0) = true:=bne_iff_ne.2 h0
  have H0:=Lib.hid h0
  clear h0
  go_wp2_with (first
   | ((with_reducible refine wpList_plain (o:=⟨some 13,Op.build _ _,_,_,_,_⟩) rfl fun K hK=>?_);(refine wp_val (v:=.agg (dig0.map B8).toArray) (by unfold execOp;simp only [List.map_toArray,List.map_nil,build_dig0,Sem.run_bind,Result.andThen_ok,Sem.run_pure]) (hK _ _ ?_)))
   | ((with_reducible refine wpList_plain (o:=⟨none,Op.store _ (.tmp 2) (.tmp 13),_,_,_,_⟩) rfl fun K hK=>?_);(refine wp_store_digO (.tmp 2) (.tmp 13) W.heap.size dig0 dig0 rfl rfl rfl rfl HO2.out fun w4 ho4 hg4 hs4=>hK _ _ ?_);have HO4:=Lib.hid ho4;have HG4:=Lib.hid hg4;clear ho4 hg4 hs4))
  refine bodyPost_ret (results_dig_tmp rfl _ rfl rfl HO4.out) rfl ?_
  exact name_bad HEE.out H0.out (HB2.out.grown HG4.out (by have:=HB2.out.size;omega) (fun k e=>by cases e;omega))
set_option maxHeartbeats 3200000 in
theorem RName_any (v:Value) (l:List BlobL) (w:World) (hl:RBlob.Row w v l) (hK:Consts w):Calls Tryz.prog 18 #[.agg #[v]] w (NamePost w l):=by
 obtain ⟨a,c,hv⟩:=hl.len
 subst hv
 have hle:=hl.le
 obtain ⟨W,hW⟩:∃ W,w.alloc (.cells #[.slice a l.length c] 52) = W:=⟨_,rfl⟩
 have ho:RImg.O W w.heap.size (.slice a l.length c):=by rw [← hW];exact ⟨heap_alloc_new w _,rfl⟩
 have hb:Below w.heap.size w W:=by rw [← hW];exact (Below.refl _ w).alloc (Nat.le_refl _) _
 have hE:=fun W' h=>REncImg_any (.slice a l.length c) l W' h
 obtain ⟨E,hEE⟩:∃ E,encGE l = E:=⟨_,rfl⟩
 have HL:=Lib.hid (hl.of_new hb)
 have HO:=Lib.hid ho
 have HW:=Lib.hid hW
 have HB:=Lib.hid hb
 have HE:=Lib.hid hE
 have HEE:=Lib.hid hEE
 have HKW:=Lib.hid (hK.of_new hb)
 have HS:=Lib.hid (fun v W' h=>RSum_any v ((encG l).getD []) W' h (encG_len l))
 clear hl ho hW hb hE hEE hK
 go_enter Tryz.func18,Tryz.ntmps18
 go_upto_region 1 with (first
  | ((with_reducible refine wpList_plain (o:=⟨some 2,Op.alloc _,_,_,_,_⟩) rfl fun K hK=>?_);rw [HW.out];(refine wp_alloc_dig rfl fun w1 ho1 hb1 hs1=>hK _ _ ?_);have HO1:=Lib.hid ho1;have HB1:=Lib.hid (below_next HB.out hb1);have HI1:=Lib.hid (HO.out.of_new hb1);have HL1:=Lib.hid (HL.out.of_new hb1);have HK1:=Lib.hid (HKW.out.of_new hb1);have hs1':w.heap.size < W.heap.size:=HO.out.lt;clear ho1 hb1 hs1))
 go_upto_region 2 with (first
  | ((with_reducible refine wpList_plain (o:=⟨some 7,Op.load _ _,_,_,_,_⟩) rfl fun K hK=>?_);(refine HI1.out.at_.wp rfl rfl (hK _ _ ?_)))
  | (go_at_call 54;refine (HE.out _ HL1.out).mono ?_;rintro e w2 ⟨v2,rfl,hbv,hb2⟩;have HV:=Lib.hid hbv;have HO2:=Lib.hid (HO1.out.of_new hb2);have HB2:=Lib.hid (below_next HB1.out hb2);have HK2:=Lib.hid (HK1.out.of_new hb2);clear hbv hb2))
 rw [HEE.out]
 by_cases h0:E = 0
 ·have HH:=Lib.hid h0
  subst h0
  go_wp2_with (first
   | (go_at_call 32;refine (HS.out _ _ HV.out).mono ?_;rintro e w3 ⟨rfl,hb3⟩;have HO3:=Lib.hid (HO2.out.of_new hb3);have HB3:=Lib.hid (below_next HB2.out hb3);clear hb3)
   | ((with_reducible refine wpList_plain (o:=⟨none,Op.store _ (.tmp 2) (.tmp 16),_,_,_,_⟩) rfl fun K hK=>?_);(refine wp_store_digO (.tmp 2) (.tmp 16) W.heap.size (sumL ((encG l).getD [])) dig0 rfl rfl rfl (sumL_len _) HO3.out fun w4 ho4 hg4 hs4=>hK _ _ ?_);have HO4:=Lib.hid ho4;have HG4:=Lib.hid hg4;clear ho4 hg4 hs4))
  refine bodyPost_ret (results_dig_tmp rfl _ rfl rfl HO4.out) rfl ?_
  exact name_ok HEE.out rfl (HB3.out.grown HG4.out (by have:=HB3.out.size;omega) (fun k e=>by cases e;omega))
 ·have t1:(E == 0) = false:=beq_eq_false_iff_ne.2 h0
  have t2:(E != 0) = true:=bne_iff_ne.2 h0
  have H0:=Lib.hid h0
  clear h0
  go_wp2_with (first
   | ((with_reducible refine wpList_plain (o:=⟨some 13,Op.build _ _,_,_,_,_⟩) rfl fun K hK=>?_);(refine wp_val (v:=.agg (dig0.map B8).toArray) (by unfold execOp;simp only [List.map_toArray,List.map_nil,build_dig0,Sem.run_bind,Result.andThen_ok,Sem.run_pure]) (hK _ _ ?_)))
   | ((with_reducible refine wpList_plain (o:=⟨none,Op.store _ (.tmp 2) (.tmp 13),_,_,_,_⟩) rfl fun K hK=>?_);(refine wp_store_digO (.tmp 2) (.tmp 13) W.heap.size dig0 dig0 rfl rfl rfl rfl HO2.out fun w4 ho4 hg4 hs4=>hK _ _ ?_);have HO4:=Lib.hid ho4;have HG4:=Lib.hid hg4;clear ho4 hg4 hs4))
  refine bodyPost_ret (results_dig_tmp rfl _ rfl rfl HO4.out) rfl ?_
  exact name_bad HEE.out H0.out (HB2.out.grown HG4.out (by have:=HB2.out.size;omega) (fun k e=>by cases e;omega))
end Go.Proofs.YtnohglkilpnjhaaGreatDoor
