/- Lemmas that the statement of this claim leans on; their own comments are taken out, for the size of the claim. No condition beyond what each lemma states. -/
import Derived.Test.YtnohglkilpnjhaaGreatDoorSc14
import Derived.Deep.OwnRows
import Derived.Lib.Mul64
import Derived.Laws.Bits64b
import Derived.Shelf.RegionOpenPlain
set_option linter.unusedVariables false
set_option linter.unusedSimpArgs false
set_option linter.unusedSectionVars false
namespace Go.Proofs.YtnohglkilpnjhaaGreatDoor
open Go.RowKit
set_option maxRecDepth 100000 in
set_option maxHeartbeats 1600000 in
theorem RProof_no (v:Value) (l:List (List UInt8)) (i:Int) (w:World) (hl:Digs w v l) (h:¬ (0 ≤ i∧i < l.length∧l.length ≤ 1024)) (hi1:-9223372036854775808 ≤ i) (hi2:i ≤ 9223372036854775807) :
  Calls Tryz.prog 148 #[v,.int .i64 i] w (ProofPost w ([],1)):=by
 have hle:=hl.le
 unfold maxLen at hle
 obtain ⟨va,vc,hv⟩:=hl.len
 subst hv
 by_cases c1:i < 0
 all_goals by_cases c2:(l.length:Int) ≤ i
 all_goals by_cases c3:(1024:Int) < l.length
 all_goals first | (exfalso;omega) | skip
 all_goals clear h
 all_goals go_enter Tryz.func148,Tryz.ntmps148
 all_goals go_wp2
 all_goals go_ret2
 all_goals exact ⟨_,rfl,OwnD.nil _ _,Below.refl _ _⟩
def RProofI (l:List (List UInt8)) (i:Nat) (w:World) (iv ov lv:Value) (wr:World):Prop:=
 ∃ (cur out:List (List UInt8)) (k:Nat),iv = .int .i64 (k:Int)∧Digs wr lv cur∧k < cur.length∧cur.length ≤ 1024∧out.length + cur.length ≤ 2048∧OwnD wr w.heap.size ov out∧(∀ k,ov.ownBlock = some k→lv.ownBlock ≠ some k)∧proofL l i = out ++ proofL cur k∧Below w.heap.size w wr
theorem Digs.grown {w w':World} {row:Option Nat} {v:Value} {l:List (List UInt8)} (h:Digs w v l) (hg:w.grownBy w' row) (hne:∀ k,v.ownBlock = some k→some k ≠ row):Digs w' v l:=⟨h.1,h.2.of_kept hg hne⟩
theorem Digs.blk {w:World} {b off n c:Nat} {l:List (List UInt8)} (h:Digs w (.slice (some ⟨b,off,none⟩) n c) l) (h0:0 < l.length):b < w.heap.size:=(h.digAt h0).lt
theorem rproof_fin {l cur out out2:List (List UInt8)} {i k:Nat} {w w2:World} {v6 v2:Value} {a:Option Addr} {cc:Nat} (hlt:1 < cur.length) (hi:k < cur.length) (hlen:cur.length ≤ 1024) (hout:out.length + cur.length ≤ 2048) (hl3:out2.length ≤ out.length + 1) (hl2:Digs w2 v2 (aboveL cur)) (ho:OwnD w2 w.heap.size v6 out2)
  (hne:∀ k,v6.ownBlock = some k→v2.ownBlock ≠ some k) (HE:proofL l i = out2 ++ proofL (aboveL cur) (k / 2)) (hb:Below w.heap.size w w2):RProofI l i w (.int .i64 ((k:Int) / 2)) v6 v2 w2∧lenV v2 < lenV (.slice a cur.length cc):=by
 have hal:=aboveL_len cur
 refine ⟨⟨aboveL cur,out2,k / 2,by simp,hl2,by omega,by omega,by omega,ho,hne,HE,hb⟩,?_⟩
 obtain ⟨a2,c2,rfl⟩:=hl2.len
 show (aboveL cur).length < cur.length
 omega
set_option maxRecDepth 100000 in
set_option maxHeartbeats 3200000 in
theorem RProof_yes (v:Value) (l:List (List UInt8)) (i:Nat) (w:World) (hl:Digs w v l) (hi:i < l.length) (hlen:l.length ≤ 1024) :
  Calls Tryz.prog 148 #[v,.int .i64 (i:Int)] w (ProofPost w (proofL l i,0)):=by
 obtain ⟨va,vc,hv⟩:=hl.len
 subst hv
 have c2:¬ (l.length:Int) ≤ i:=by omega
 have c3:¬ (1024:Int) < l.length:=by omega
 go_enter Tryz.func148,Tryz.ntmps148
 go_wp2
 go_loopw [1,6,7] (RProofI l i w) (fun _ _ lv _=>lenV lv)
 case atStart=>exact ⟨l,[],i,rfl,hl,hi,hlen,by simp;omega,OwnD.nil _ _,(fun k h=>by cases h),by simp,Below.refl _ _⟩
 case round=>
  clear hl hi hlen c2 c3
  obtain ⟨cur,out,k,rfl,hl,hi,hlen,hout,ho,hne,hp,hb⟩:=hrel
  have hsz:=hb.size
  obtain ⟨ca,cc,hv⟩:=hl.len
  subst hv
  obtain ⟨oa,oc,hv⟩:=ho.digs.len
  subst hv
  by_cases hlt:1 < cur.length
  ·have t1:(1:Int) < (cur.length:Int):=by omega
   obtain ⟨b,off,c,hv⟩:=hl.shape (by omega)
   obtain ⟨rfl,rfl⟩:ca = some ⟨b,off,none⟩∧cc = c:=by cases hv;exact ⟨rfl,rfl⟩
   clear hv
   have hstep:=proofL_step hlt k
   have hal:=aboveL_len cur
   have finish:∀ out',out ++ stepP cur k = out'→proofL l i = out' ++ proofL (aboveL cur) (k / 2):=fun out' e=>by
    rw [hp,hstep,← e,List.append_assoc]
   have HF:=Lib.hid finish
   have HAL:=Lib.hid hal
   have hbz:besideZ cur.length k = if k % 2 = 1 then (k:Int) - 1 else if k + 1 < cur.length then (k:Int) + 1 else -1:=rfl
   have hsp:stepP cur k = if 0 ≤ besideZ cur.length k then [cur.getD (besideZ cur.length k).toNat []] else []:=rfl
   clear finish hal hstep hp
   by_cases h2:k % 2 = 1
   ·rw [if_pos h2] at hbz
    rw [hbz,if_pos (by omega),show ((k:Int) - 1).toNat = k - 1 by omega] at hsp
    have t2:(k:Int) % 2 = 1:=by omega
    have t3:(0:Int) ≤ (k:Int) - 1:=by omega
    have t4:(k:Int) - 1 < (cur.length:Int):=by omega
    have t5:((k:Int) - 1).toNat = k - 1:=by omega
    have h1:=hl.digAt (i:=k - 1) (by omega)
    have HSP:=Lib.hid hsp
    clear hsp hbz h2
    generalize cur.getD (k - 1) [] = d at *
    go_wp2_with (first
     | ((with_reducible apply wpList_load_at (ty:=31) (x:=.tmp _));rfl;rfl;rfl;assumption)
     | ((with_reducible refine wpList_buildDigs (op:=⟨_,Op.buildSlice 34 1 _,_,_,_,_⟩) 1 #[(0,.tmp 33)] [d] ?_ ?_ ?_ ?_ ?_ ?_ ?_ ?_);rfl;rfl;rfl;simp;simp;(intro x hx;simp at hx;rw [hx];exact h1.1);(simp only [List.map_toArray,List.map_cons,List.map_nil];rfl);intro w7 ho7 hb7 hs7;refine wpList_appD rfl (.tmp 28) (.tmp 34) 34 rfl w.heap.size Tryz.underlying34 _ _ rfl (ho.of_new hb7) _ [d] rfl ho7.digs (by simp;omega) (by omega) ?_;intro v6 w6 ho6 hg6 hv6;have hb6:Below w.heap.size w w6:=(below_next' hb hb7).grown hg6 (by omega) (fun j hj=>((ho.of_new hb7).lt j hj).1);have hl6:Digs w6 (.slice (some ⟨b,off,none⟩) cur.length cc) cur:=(hl.of_new hb7).grown hg6 (fun k e e2=>hne k e2.symm (by rw [← e]));clear hg6 ho7 ho))
    refine (Above_any _ cur _ hl6 (by omega)).mono ?_
    rintro e w2 ⟨v2,rfl,ho2,hb2⟩
    have HE:=Lib.hid (HF.out _ (by rw [HSP.out]))
    have hne2:∀ k,v6.ownBlock = some k→v2.ownBlock ≠ some k:=fun k e e2=>by have:=(ho6.lt k e).2;have:=(ho2.lt k e2).1;omega
    have ho6':=ho6.of_new hb2
    have hl2:=ho2.digs
    clear ho2 ho6 HF HSP
    have hl3:(out ++ [d]).length ≤ out.length + 1:=by simp
    have hB2:=below_next' hb6 hb2 (by have:=hb6.size;omega)
    generalize out ++ [d] = out2 at *
    go_wp2
    exact rproof_fin hlt hi hlen hout hl3 hl2 ho6' hne2 HE.out hB2
   ·rw [if_neg h2] at hbz
    have t2:(k:Int) % 2 = 0:=by omega
    by_cases h3:k + 1 < cur.length
    ·rw [if_pos h3] at hbz
     rw [hbz,if_pos (by omega),show ((k:Int) + 1).toNat = k + 1 by omega] at hsp
     have t3:(0:Int) ≤ (k:Int) + 1:=by omega
     have t4:(k:Int) + 1 < (cur.length:Int):=by omega
     have t5:((k:Int) + 1).toNat = k + 1:=by omega
     have h1:=hl.digAt (i:=k + 1) (by omega)
     have HSP:=Lib.hid hsp
     clear hsp hbz h2
     generalize cur.getD (k + 1) [] = d at *
     go_wp2_with (first
      | ((with_reducible apply wpList_load_at (ty:=31) (x:=.tmp _));rfl;rfl;rfl;assumption)
      | ((with_reducible refine wpList_buildDigs (op:=⟨_,Op.buildSlice 34 1 _,_,_,_,_⟩) 1 #[(0,.tmp 46)] [d] ?_ ?_ ?_ ?_ ?_ ?_ ?_ ?_);rfl;rfl;rfl;simp;simp;(intro x hx;simp at hx;rw [hx];exact h1.1);(simp only [List.map_toArray,List.map_cons,List.map_nil];rfl);intro w7 ho7 hb7 hs7;refine wpList_appD rfl (.tmp 41) (.tmp 47) 34 rfl w.heap.size Tryz.underlying34 _ _ rfl (ho.of_new hb7) _ [d] rfl ho7.digs (by simp;omega) (by omega) ?_;intro v6 w6 ho6 hg6 hv6;have hb6:Below w.heap.size w w6:=(below_next' hb hb7).grown hg6 (by omega) (fun j hj=>((ho.of_new hb7).lt j hj).1);have hl6:Digs w6 (.slice (some ⟨b,off,none⟩) cur.length cc) cur:=(hl.of_new hb7).grown hg6 (fun k e e2=>hne k e2.symm (by rw [← e]));clear hg6 ho7 ho))
     refine (Above_any _ cur _ hl6 (by omega)).mono ?_
     rintro e w2 ⟨v2,rfl,ho2,hb2⟩
     have HE:=Lib.hid (HF.out _ (by rw [HSP.out]))
     have hne2:∀ k,v6.ownBlock = some k→v2.ownBlock ≠ some k:=fun k e e2=>by have:=(ho6.lt k e).2;have:=(ho2.lt k e2).1;omega
     have ho6':=ho6.of_new hb2
     have hl2:=ho2.digs
     clear ho2 ho6 HF HSP
     have hl3:(out ++ [d]).length ≤ out.length + 1:=by simp
     have hB2:=below_next' hb6 hb2 (by have:=hb6.size;omega)
     generalize out ++ [d] = out2 at *
     go_wp2
     exact rproof_fin hlt hi hlen hout hl3 hl2 ho6' hne2 HE.out hB2
    ·rw [if_neg h3] at hbz
     rw [hbz,if_neg (by omega)] at hsp
     have t4:¬ (k:Int) + 1 < (cur.length:Int):=by omega
     have HSP:=Lib.hid hsp
     clear hsp hbz h2 h3
     go_wp2_with fail
     refine (Above_any _ cur _ hl (by omega)).mono ?_
     rintro e w2 ⟨v2,rfl,ho2,hb2⟩
     have HE:=Lib.hid (HF.out out (by rw [HSP.out,List.append_nil]))
     have hne2:∀ k,(Value.slice oa out.length oc).ownBlock = some k→v2.ownBlock ≠ some k:=fun k e e2=>by have:=(ho.lt k e).2;have:=(ho2.lt k e2).1;omega
     have ho6':=ho.of_new hb2
     have hl2:=ho2.digs
     clear ho2 ho HF HSP
     have hB2:=below_next' hb hb2 (by have:=hb.size;omega)
     go_wp2
     exact rproof_fin hlt hi hlen hout (by omega) hl2 ho6' hne2 HE.out hB2
  ·have t1:¬ (1:Int) < (cur.length:Int):=by omega
   rw [proofL_end (by omega) k hi,List.append_nil] at hp
   have HP:=Lib.hid hp
   clear hp
   go_wp2
   go_ret2
   refine ⟨_,rfl,?_,hb⟩
   rw [HP.out]
   exact ho
theorem RProof_any (v:Value) (l:List (List UInt8)) (i:Int) (w:World) (hl:Digs w v l) (hi1:-9223372036854775808 ≤ i) (hi2:i ≤ 9223372036854775807) :
  Calls Tryz.prog 148 #[v,.int .i64 i] w (ProofPost w (proofE l i)):=by
 unfold proofE
 by_cases h:0 ≤ i∧i < l.length∧l.length ≤ 1024
 ·rw [if_pos h]
  obtain ⟨j,rfl⟩:∃ j:Nat,i = (j:Int):=⟨i.toNat,by omega⟩
  exact RProof_yes v l j w hl (by omega) (by omega)
 ·rw [if_neg h]
  exact RProof_no v l i w hl h hi1 hi2
end Go.Proofs.YtnohglkilpnjhaaGreatDoor
namespace Go.Proofs.YtnohglkilpnjhaaGreatDoor
theorem upP_cons' (n i:Nat) (r:List (Nat × Nat)) (x:List UInt8) (p:List (List UInt8)):upP ((n,i) :: r) x p = if besideZ n i < 0 then upP r x p else if i % 2 = 1 then upP r (nodeL (p.getD 0 []) x) p.tail else upP r (nodeL x (p.getD 0 [])) p.tail:=rfl
theorem above_odd {l:List (List UInt8)} {i:Nat} (h:i < l.length) (ho:i % 2 = 1):(aboveL l).getD (i / 2) [] = nodeL (l.getD (i - 1) []) (l.getD i []):=by
 rw [aboveL_at l (i / 2) (by omega),show 2 * (i / 2) = i - 1 by omega,show i - 1 + 1 = i by omega]
theorem above_even {l:List (List UInt8)} {i:Nat} (h:i + 1 < l.length) (ho:¬ i % 2 = 1):(aboveL l).getD (i / 2) [] = nodeL (l.getD i []) (l.getD (i + 1) []):=by
 rw [aboveL_at l (i / 2) (by omega),show 2 * (i / 2) = i by omega]
theorem above_end {l:List (List UInt8)} {i:Nat} (h:i < l.length) (ho:¬ i % 2 = 1) (he:¬ i + 1 < l.length):(aboveL l).getD (i / 2) [] = l.getD i []:=by
 have:=aboveL_last l (by omega)
 rw [show l.length / 2 = i / 2 by omega,show l.length - 1 = i by omega] at this
 exact this
theorem besideZ_odd {n i:Nat} (h:i < n) (ho:i % 2 = 1):besideZ n i = ((i - 1:Nat):Int):=by unfold besideZ;rw [if_pos ho];omega
theorem besideZ_even {n i:Nat} (h:i + 1 < n) (ho:¬ i % 2 = 1):besideZ n i = ((i + 1:Nat):Int):=by unfold besideZ;rw [if_neg ho,if_pos h];omega
theorem besideZ_end {n i:Nat} (h:¬ i + 1 < n) (ho:¬ i % 2 = 1):besideZ n i = -1:=by unfold besideZ;rw [if_neg ho,if_neg h]
theorem leads (n:Nat):∀ (l:List (List UInt8)) (i:Nat),l.length ≤ n→i < l.length→l.length ≤ 1024→(upP (walkN l.length i) (l.getD i []) (proofL l i)).1 = rootL l:=by
 induction n with
 | zero=>intro l i h1 h2;omega
 | succ n ih=>
  intro l i h1 h2 h3
  by_cases h:1 < l.length
  ·have h4:=ih (aboveL l) (i / 2) (by rw [aboveL_len];omega) (by rw [aboveL_len];omega) (by rw [aboveL_len];omega)
   rw [aboveL_len] at h4
   rw [walkN_step h h3,upP_cons',proofL_step h,rootL_step h,← h4]
   unfold stepP
   by_cases ho:i % 2 = 1
   ·rw [besideZ_odd h2 ho,if_neg (by omega),if_pos ho,if_pos (by omega),above_odd h2 ho]
    simp only [Int.toNat_natCast,List.singleton_append,List.getD_cons_zero,List.tail_cons]
   ·by_cases he:i + 1 < l.length
    ·rw [besideZ_even he ho,if_neg (by omega),if_neg ho,if_pos (by omega),above_even he ho]
     simp only [Int.toNat_natCast,List.singleton_append,List.getD_cons_zero,List.tail_cons]
    ·rw [besideZ_end he ho,if_pos (by omega),if_neg (by omega),above_end h2 ho he]
     rfl
  ·rw [walkN_end (by omega),rootL_one (by omega)]
   obtain rfl:i = 0:=by omega
   rfl
end Go.Proofs.YtnohglkilpnjhaaGreatDoor
namespace Go.Proofs.YtnohglkilpnjhaaGreatDoor
open Go.RowKit
theorem img_check:∀ (l:List BlobL) (i:Nat) (last:Int),last ≤ i→i + l.length ≤ 63→checkF (imgItsF i l) last = some (imgItsF i l)
 | [],_,_,_,_=>rfl
 | x :: l,i,last,h1,h2=>by
  simp only [List.length_cons] at h2
  simp only [imgItsF,checkF]
  rw [if_neg (by omega),img_check l (i + 1) _ (Int.le_refl _) (by omega)]
  rfl
theorem blobB_len {x:BlobL} (hx:x.ok) (h:mrightB x.size x.piece = true):(blobB x).length ≤ 150:=by
 have hb:=right_bd h
 have u1:=uint_len 2 x.size.toNat (by omega)
 have u2:=uint_len 2 x.piece.toNat (by omega)
 rw [flat_blob]
 have e1:=uint_len10 (n:=x.dig.length) (by rw [hx.1];omega)
 have e2:=uint_len10 (n:=(uint x.size.toNat).length) (by omega)
 have e3:=uint_len10 (n:=(uint x.piece.toNat).length) (by omega)
 have e4:=uint_len10 (n:=x.root.length) (by rw [hx.2];omega)
 simp only [itB,List.length_append,List.length_cons,hx.1,hx.2] at *
 omega
theorem img_len:∀ (l:List BlobL) (i:Nat),(∀ x ∈ l,x.ok)→(∀ x ∈ l,mrightB x.size x.piece = true)→(flatB (imgItsF i l)).length ≤ l.length * 200
 | [],_,_,_=>by simp [imgItsF,flatB]
 | x :: l,i,h1,h2=>by
  have:=img_len l (i + 1) (fun y hy=>h1 y (by simp [hy])) (fun y hy=>h2 y (by simp [hy]))
  have hb:=blobB_len (h1 x (by simp)) (h2 x (by simp))
  have e:=uint_len10 (n:=(blobB x).length) (by omega)
  simp only [imgItsF,flatB_cons,itB,List.length_append,List.length_cons]
  omega
theorem encG_some {l:List BlobL} (h:imageE l = 0) (ho:∀ x ∈ l,x.ok):encG l = some (flatB (imgIts l))∧(flatB (imgIts l)).length ≤ 3200:=by
 have hr:=image_rights h
 have hl:l.length ≤ 16:=by
  unfold imageE at h
  split at h
  ·cases h
  ·rename_i hc;omega
 have h3:=img_len l 0 ho hr
 have:=encF_of (imgItsF 0 l) 0 [] (img_check l 0 0 (by omega) (by omega)) (by rw [List.nil_append];omega)
 refine ⟨?_,by unfold imgIts;omega⟩
 unfold encG
 rw [if_pos h]
 simpa [encL,imgIts] using this
theorem image_one {y:BlobL} (h:mrightB y.size y.piece = true):imageE [y] = 0:=by
 unfold imageE rightsB digs
 rw [if_neg (by simp [h]),if_pos (by simp)]
end Go.Proofs.YtnohglkilpnjhaaGreatDoor
namespace Go.Proofs.YtnohglkilpnjhaaGreatDoor
def mix1 (z:Nat):Nat:=((z ^^^ (z / 1073741824)) * 13787848793156543929) % 18446744073709551616
def mix2 (z:Nat):Nat:=((z ^^^ (z / 134217728)) * 10723151780598845931) % 18446744073709551616
def mix3 (z:Nat):Nat:=z ^^^ (z / 2147483648)
def mixN (z:Nat):Nat:=mix3 (mix2 (mix1 z))
def nextN (s:Nat):Nat:=(s + 11400714819323198485) % 18446744073709551616
def belowN (s n:Nat):Nat:=mixN (nextN s) * n / 18446744073709551616
def swapL (l:List Int) (i k:Nat):List Int:=(l.set i (l.getD k 0)).set k (l.getD i 0)
def shufF:Nat→Nat→List Int→List Int
 | 0,_,l=>l
 | i + 1,s,l=>shufF i (nextN s) (swapL l (i + 1) (belowN s (i + 2)))
def shufL (s:Nat) (l:List Int):List Int:=shufF (l.length - 1) s l
def sampleL (s:Nat) (l:List Int) (k:Int):List Int:=(shufL s l).take (max 0 (min k l.length)).toNat
theorem mix_lt (z:Nat):mixN z < 18446744073709551616:=by
 unfold mixN
 generalize mix1 z = a
 have h:mix2 a < 18446744073709551616:=Nat.mod_lt _ (by decide)
 generalize mix2 a = b at *
 exact Nat.xor_lt_two_pow (n:=64) h (by omega)
theorem next_lt (s:Nat):nextN s < 18446744073709551616:=Nat.mod_lt _ (by decide)
theorem below_lt (s n:Nat) (h:0 < n):belowN s n < n:=by
 unfold belowN
 have:=mix_lt (nextN s)
 refine (Nat.div_lt_iff_lt_mul (by decide)).2 ?_
 rw [Nat.mul_comm n]
 exact Nat.mul_lt_mul_of_pos_right this h
theorem swapL_len (l:List Int) (i k:Nat):(swapL l i k).length = l.length:=by simp [swapL]
theorem swapL_perm (l:List Int) {i k:Nat} (hi:i < l.length) (hk:k < l.length):(swapL l i k).Perm l:=by
 unfold swapL
 rw [List.perm_iff_count]
 intro a
 have e1:l.getD k 0 = l[k]:=by simp [List.getD,hk]
 have e2:l.getD i 0 = l[i]:=by simp [List.getD,hi]
 rw [e1,e2]
 rw [List.count_set (by simpa using hk),List.count_set hi,List.getElem_set]
 have c1:(l[i] == a) = true→0 < List.count a l:=fun h=>List.count_pos_iff.2 (by rw [← beq_iff_eq.1 h];exact List.getElem_mem _)
 have c2:(l[k] == a) = true→0 < List.count a l:=fun h=>List.count_pos_iff.2 (by rw [← beq_iff_eq.1 h];exact List.getElem_mem _)
 by_cases hik:i = k
 ·subst hik
  simp only [if_true]
  by_cases h1:(l[i] == a) = true
  ·have:=c1 h1
   simp only [h1,if_true];omega
  ·simp only [h1];simp
 ·rw [if_neg hik]
  by_cases h1:(l[i] == a) = true <;> by_cases h2:(l[k] == a) = true
  ·have:=c1 h1
   simp only [h1,h2,if_true];omega
  ·have:=c1 h1
   simp only [h1,h2,if_true];simp <;> omega
  ·have:=c2 h2
   simp only [h1,h2,if_true];simp <;> omega
  ·simp only [h1,h2];simp
theorem shufF_perm:∀ (i s:Nat) (l:List Int),i < l.length∨i = 0→(shufF i s l).Perm l
 | 0,_,l,_=>List.Perm.refl _
 | i + 1,s,l,h=>by
  have hi:i + 1 < l.length:=by omega
  have hb:=below_lt s (i + 2) (by omega)
  rw [shufF]
  exact (shufF_perm i _ _ (.inl (by rw [swapL_len];omega))).trans (swapL_perm l hi (by omega))
theorem shufL_perm (s:Nat) (l:List Int):(shufL s l).Perm l:=shufF_perm _ _ _ (by omega)
end Go.Proofs.YtnohglkilpnjhaaGreatDoor
namespace Go.Proofs.YtnohglkilpnjhaaGreatDoor
open Go.RowKit
set_option maxRecDepth 100000
def SrcO (w:World) (g s:Nat):Prop:=One w g (.int .u64 (s:Int)) 224∧s < 18446744073709551616
theorem mix_facts (S:Nat) (hS:S < 18446744073709551616):∃ X M Y N:Nat,bits .xor .u64 (S:Int) ((S:Int) / 1073741824) = (X:Int)∧IntKind.u64.wrap ((X:Int) * 13787848793156543929) = (M:Int)∧bits .xor .u64 (M:Int) ((M:Int) / 134217728) = (Y:Int) ∧
  IntKind.u64.wrap ((Y:Int) * 10723151780598845931) = (N:Int)∧bits .xor .u64 (N:Int) ((N:Int) / 2147483648) = (mixN S:Int):=by
 have hM:mix1 S < 18446744073709551616:=Nat.mod_lt _ (by decide)
 have hN:mix2 (mix1 S) < 18446744073709551616:=Nat.mod_lt _ (by decide)
 refine ⟨S ^^^ (S / 1073741824),mix1 S,mix1 S ^^^ (mix1 S / 134217728),mix2 (mix1 S),?_,?_,?_,?_,?_⟩
 ·rw [← bits_xor_u64_nat S (S / 1073741824) hS (by omega)];congr 1
 ·rw [IntKind.wrap_u64];unfold mix1;omega
 ·rw [← bits_xor_u64_nat (mix1 S) (mix1 S / 134217728) hM (by omega)];congr 1
 ·rw [IntKind.wrap_u64];unfold mix2;omega
 ·have:=bits_xor_u64_nat (mix2 (mix1 S)) (mix2 (mix1 S) / 2147483648) hN (by omega)
  unfold mixN mix3
  rw [← this];congr 1
set_option maxHeartbeats 1600000 in
theorem Next_any (g s:Nat) (w:World) (hs:SrcO w g s) :
  Calls Tryz.prog 185 #[.pointer (some ⟨g,0,none⟩)] w fun e w'=>e = .returned (.int .u64 (mixN (nextN s):Nat))∧SrcO w' g (nextN s)∧w.grownBy w' (some g)∧w'.heap.size = w.heap.size:=by
 obtain ⟨ho,hlt⟩:=hs
 have hc:=ho.cell
 have hf:=ho.free
 go_enter Tryz.func185,Tryz.ntmps185
 go_upto_region 2 with (fail)
 generalize hW:World.setCell w _ _ = W1
 obtain ⟨h1,hg,hz⟩:SrcO W1 g (nextN s)∧w.grownBy W1 (some g)∧W1.heap.size = w.heap.size:=by
  subst hW
  have e:∀ x:Int,x = ((nextN s:Nat):Int)→SrcO (w.setCell ⟨g,0,none⟩ (.int .u64 x)) g (nextN s):=fun x hx=>by rw [hx];exact ⟨ho.set _,next_lt s⟩
  refine ⟨e _ ?_,⟨rfl,rfl,rfl,by simp,fun k hk hne=>Below.heap_setCell _ _ _ _ (fun q=>hne (by rw [q]))⟩,by simp⟩
  rw [IntKind.wrap_u64]
  unfold nextN
  omega
 clear hW hc hf ho
 have hc1:=h1.1.cell
 obtain ⟨S,hSe⟩:∃ S,nextN s = S:=⟨_,rfl⟩
 rw [hSe] at h1 hc1
 obtain ⟨X,M,Y,N,x1,m1,x2,m2,x3⟩:=mix_facts S h1.2
 obtain ⟨Z,hZ⟩:∃ Z,mixN S = Z:=⟨_,rfl⟩
 rw [hZ] at x3
 have HSE:=Lib.hid hSe
 have HMX:=Lib.hid hZ
 have H1:=Lib.hid h1
 have HG:=Lib.hid hg
 have HZ:=Lib.hid hz
 clear hZ h1 hg hz hSe
 go_wp2
 go_ret
 exact ⟨by rw [HSE.out,HMX.out];rfl,by rw [HSE.out];exact H1.out,HG.out,HZ.out⟩
theorem maskN11 (a:Nat) (ha:a < 18446744073709551616):bits .and .u64 (a:Int) 4294967295 = ((a % 4294967296:Nat):Int):=by
 have h:=bits_and_u64_nat a 4294967295 ha (by omega)
 have e:a &&& 4294967295 = a % 4294967296:=Nat.and_two_pow_sub_one_eq_mod a 32
 rw [e] at h
 exact h
theorem divN11 (a:Nat):(a:Int) / 4294967296 = ((a / 4294967296:Nat):Int):=by omega
theorem modN11 (a:Nat):(a:Int) % 4294967296 = ((a % 4294967296:Nat):Int):=by omega
theorem tdivN11 (a:Nat):(a:Int).tdiv 4294967296 = ((a / 4294967296:Nat):Int):=by rw [Int.tdiv_eq_ediv_of_nonneg (by omega)];omega
theorem tmodN11 (a:Nat):(a:Int).tmod 4294967296 = ((a % 4294967296:Nat):Int):=by rw [Int.tmod_eq_emod_of_nonneg (by omega)];omega
theorem mulN11 (a b:Nat):(a:Int) * (b:Int) = ((a * b:Nat):Int):=(Int.natCast_mul a b).symm
theorem addN11 (a b:Nat):(a:Int) + (b:Int) = ((a + b:Nat):Int):=(Int.natCast_add a b).symm
theorem wrapN11 (a:Nat) (ha:a < 18446744073709551616):IntKind.u64.wrap (a:Int) = (a:Int):=by rw [IntKind.wrap_u64];omega
theorem wrapM11 (a:Nat):IntKind.u64.wrap (a:Int) = ((a % 18446744073709551616:Nat):Int):=by rw [IntKind.wrap_u64];omega
set_option maxHeartbeats 1600000 in
theorem Mul64_any (x y:Nat) (hx:x < 18446744073709551616) (hy:y < 18446744073709551616) (w:World) :
  Calls Tryz.prog 184 #[.int .u64 x,.int .u64 y] w fun e w'=>e = .returned (.tuple #[.int .u64 ((x * y / 18446744073709551616:Nat):Int),.int .u64 ((x * y % 18446744073709551616:Nat):Int)])∧w' = w:=by
 obtain ⟨bd,bt,bw,hhi⟩:=Lib.mul64_hi x y hx hy
 have ba:=Lib.half_mul_le (a:=x / 4294967296) (b:=y / 4294967296) (by omega) (by omega)
 have bb:=Lib.half_mul_le (a:=x / 4294967296) (b:=y % 4294967296) (by omega) (by omega)
 have bc:=Lib.half_mul_le (a:=x % 4294967296) (b:=y / 4294967296) (by omega) (by omega)
 have ba':x / 4294967296 * (y / 4294967296) < 18446744073709551616:=by omega
 have bb':x / 4294967296 * (y % 4294967296) < 18446744073709551616:=by omega
 have bc':x % 4294967296 * (y / 4294967296) < 18446744073709551616:=by omega
 have bh1:x / 4294967296 * (y / 4294967296) + (x / 4294967296 * (y % 4294967296) + x % 4294967296 * (y % 4294967296) / 4294967296) / 4294967296 < 18446744073709551616:=by omega
 have bh:x / 4294967296 * (y / 4294967296) + (x / 4294967296 * (y % 4294967296) + x % 4294967296 * (y % 4294967296) / 4294967296) / 4294967296 + ((x / 4294967296 * (y % 4294967296) + x % 4294967296 * (y % 4294967296) / 4294967296) % 4294967296 + x % 4294967296 * (y / 4294967296)) / 4294967296 < 18446744073709551616:=by omega
 go_enter Tryz.func184,Tryz.ntmps184
 go_wp2
 simp only [maskN11 x hx,maskN11 y hy,divN11,mulN11,addN11,wrapN11 _ bd,wrapN11 _ bb',wrapN11 _ bt,maskN11 _ bt,wrapN11 _ bc',wrapN11 _ bw,wrapN11 _ ba',wrapN11 _ bh1,wrapN11 _ bh,wrapM11 (x * y)]
 rw [hhi]
 go_ret2
 exact ⟨rfl,rfl⟩
set_option maxHeartbeats 1600000 in
theorem Below_any (g s n:Nat) (w:World) (hs:SrcO w g s) (hn:n < 18446744073709551616) :
  Calls Tryz.prog 172 #[.pointer (some ⟨g,0,none⟩),.int .u64 (n:Int)] w fun e w'=>e = .returned (.int .u64 (belowN s n:Nat))∧SrcO w' g (nextN s)∧w.grownBy w' (some g)∧w'.heap.size = w.heap.size:=by
 have hN:=Next_any g s w hs
 have hM:=fun w'=>Mul64_any (mixN (nextN s)) n (mix_lt _) hn w'
 have hb:mixN (nextN s) * n / 18446744073709551616 = belowN s n:=rfl
 rw [hb] at hM
 obtain ⟨B,hB⟩:∃ B,belowN s n = B:=⟨_,rfl⟩
 rw [hB] at hM
 obtain ⟨X,hX⟩:∃ X,mixN (nextN s) = X:=⟨_,rfl⟩
 rw [hX] at hM hN
 have HN:=Lib.hid hN
 have HM:=Lib.hid hM
 have HB:=Lib.hid hB
 clear hN hM hb hB hX
 go_enter Tryz.func172,Tryz.ntmps172
 go_wp2_with (first
  | (go_at_call 185;refine HN.out.mono ?_;rintro e w1 ⟨rfl,h1,hg1,hz1⟩;have H1:=Lib.hid h1;have HG1:=Lib.hid hg1;have HZ1:=Lib.hid hz1;clear h1 hg1 hz1)
  | (go_at_call 184;refine (HM.out _).mono ?_;rintro e w2 ⟨rfl,rfl⟩))
 go_ret
 exact ⟨by rw [HB.out];rfl,H1.out,HG1.out,HZ1.out⟩
theorem ownN_empty (w:World):OwnN (w.alloc (.cells #[] 3)) w.heap.size (.slice (some ⟨w.heap.size,0,none⟩) 0 0) []:=
 ⟨rfl,.inr ⟨w.heap.size,0,#[],rfl,Nat.le_refl _,heap_alloc_new w _,Nat.le_refl _,by unfold maxLen;omega,rfl,rfl⟩⟩
section
variable {w:World} {base g cap:Nat} {l:List Int}
theorem OwnN.shape {v:Value} (h:OwnN w base v l) (h0:0 < l.length):∃ g cap,v = .slice (some ⟨g,0,none⟩) l.length cap∧base ≤ g∧g < w.heap.size:=by
 rcases h.2 with ⟨_,h1⟩ | ⟨g,cap,cur,hv,hb,hh,_⟩
 ·omega
 ·exact ⟨g,cap,hv,hb,(Array.getElem?_eq_some_iff.1 hh).1⟩
theorem OwnN.cell (h:OwnN w base (.slice (some ⟨g,0,none⟩) l.length cap) l) {i:Nat} (hi:i < l.length):w.cell? ⟨g,i,none⟩ = some (.int .i64 (l.getD i 0))∧w.frozen? ⟨g,i,none⟩ = false:=by
 rcases h.2 with ⟨h1,_⟩ | ⟨g',cap',cur,hv,hb,hh,hn,hc,hs,hx⟩
 ·cases h1
 ·obtain ⟨rfl,rfl⟩:g = g'∧cap = cap':=by cases hv;exact ⟨rfl,rfl⟩
  refine ⟨?_,by simp [World.frozen?,hh]⟩
  have h1:(cur.toList.take (l.length * 1))[i]? = some (.int .i64 (l.getD i 0)):=by
   rw [hx];simp [List.getElem?_map,List.getElem?_eq_getElem hi,List.getD,I64]
  rw [List.getElem?_take,if_pos (by omega)] at h1
  simp only [World.cell?,hh]
  simpa using h1
theorem OwnN.set (h:OwnN w base (.slice (some ⟨g,0,none⟩) l.length cap) l) (i:Nat) (x:Int):OwnN (w.setCell ⟨g,i,none⟩ (.int .i64 x)) base (.slice (some ⟨g,0,none⟩) l.length cap) (l.set i x):=by
 rcases h.2 with ⟨h1,_⟩ | ⟨g',cap',cur,hv,hb,hh,hn,hc,hs,hx⟩
 ·cases h1
 ·obtain ⟨rfl,rfl⟩:g = g'∧cap = cap':=by cases hv;exact ⟨rfl,rfl⟩
  have hnew:(w.setCell ⟨g,i,none⟩ (.int .i64 x)).heap[g]? = some (.cells (cur.setIfInBounds i (.int .i64 x)) 3 (0,0)):=by
   simp only [World.setCell,Array.getElem?_modify,if_true,hh,Option.map_some]
   rfl
  refine ⟨by simp,.inr ⟨g,cap,cur.setIfInBounds i (.int .i64 x),by rw [List.length_set],hb,hnew,by rw [List.length_set];exact hn,hc,by simpa using hs,?_⟩⟩
  rw [List.length_set,Array.toList_setIfInBounds,List.take_set,hx,List.map_set]
  rfl
end
set_option maxHeartbeats 800000 in
theorem CloneI_any (v:Value) (l:List Int) (w:World) (hl:Ints w v l) (hlen:l.length ≤ 1000000) :
  Calls Tryz.prog 171 #[v] w fun e w'=>∃ v',e = .returned v'∧OwnN w' w.heap.size v' l∧Below w.heap.size w w':=by
 obtain ⟨a,c,hv⟩:=hl.len
 have he:=fun (w:World) (a:Option Addr) (n c:Nat)=>Lib.run_eql_slice_nil (P:=Tryz.prog) w 32 3 a n c 0 0 Tryz.underlying32
 cases a with
 | none=>
  have hl0:l = []∧c = 0:=by
   obtain ⟨_,a',c',hv',h1,_,h3,_⟩:=hl
   rw [hv'] at hv;cases hv
   have:=h3 rfl
   exact ⟨List.eq_nil_of_length_eq_zero (by omega),this⟩
  obtain ⟨rfl,rfl⟩:=hl0
  subst hv
  go_enter Tryz.func171,Tryz.ntmps171
  go_wp2
  go_ret
  exact ⟨_,rfl,OwnN.nil _ _,Below.refl _ _⟩
 | some a=>
  subst hv
  have HO:=Lib.hid (ownN_empty w)
  have HL:=Lib.hid (hl.of_new ((Below.refl _ w).alloc (Nat.le_refl _) (.cells #[] 3)))
  clear hl
  go_enter Tryz.func171,Tryz.ntmps171
  go_wp2_with ((with_reducible refine wpList_plain (o:=⟨some 7,_,_,_,_,_⟩) rfl fun K hK=>?_);refine wp_appN (.tmp 5) (.tmp 6) rfl w.heap.size _ [] rfl HO.out _ l rfl HL.out (by simp;omega) (by simp) fun v1 w1 hown1 hg1 hu1=>hK _ _ ?_;have HO1:=Lib.hid (show OwnN w1 w.heap.size v1 l from by simpa using hown1);have HB1:=Lib.hid (((Below.refl _ w).alloc (Nat.le_refl _) (.cells #[] 3)).grown hg1 (by simp) (fun j hj=>by cases hj;exact Nat.le_refl _));clear hown1 hg1 hu1)
  go_ret
  exact ⟨_,rfl,HO1.out,HB1.out⟩
structure ShufSt (w0:World) (g s:Nat) (l:List Int) (b cap:Nat) (i s':Nat) (cur:List Int) (W:World):Prop where
 src:SrcO W g s'
 own:OwnN W w0.heap.size (.slice (some ⟨b,0,none⟩) cur.length cap) cur
 len:cur.length = l.length
 eq:shufL s l = shufF i s' cur
 kept:Kept (fun k=>k ≠ g) w0 W
 le:i ≤ l.length - 1
set_option maxHeartbeats 3200000 in
theorem Shuffle_any (g s:Nat) (v:Value) (l:List Int) (w:World) (hs:SrcO w g s) (hl:Ints w v l) (hlen:l.length ≤ 1000000) :
  Calls Tryz.prog 142 #[.pointer (some ⟨g,0,none⟩),v] w fun e w'=>∃ v',e = .returned v'∧OwnN w' w.heap.size v' (shufL s l)∧Kept (fun k=>k ≠ g) w w':=by
 obtain ⟨a,c,hv⟩:=hl.len
 subst hv
 have HL:=Lib.hid hl
 have HS:=Lib.hid hs
 have hgl:=hs.1.lt
 clear hl hs
 go_enter Tryz.func142,Tryz.ntmps142
 go_upto_region 2 with (go_at_call 171;refine (CloneI_any _ l _ HL.out hlen).mono ?_;rintro e w1 ⟨v1,rfl,ho1,hb1⟩;obtain ⟨a1,c1,hv⟩:=ho1.ints.len;subst hv;have HO1:=Lib.hid ho1;have HB1:=Lib.hid hb1;have HS1:=Lib.hid (show SrcO w1 g s from ⟨HS.out.1.of_new hb1,HS.out.2⟩);clear ho1 hb1)
 rcases Nat.eq_zero_or_pos l.length with h0 | h0
 ·have hl0:l = []:=List.length_eq_zero_iff.1 h0
  subst hl0
  simp only [List.length_nil]
  go_wp2
  go_loopw [6,7] (fun iv _ W=>iv = .int .i64 (-1)∧W = w1) (fun _ _ _=>0)
  case atStart=>exact ⟨rfl,rfl⟩
  case round=>
   obtain ⟨rfl,rfl⟩:=hrel
   go_wp2
   go_ret
   exact ⟨_,rfl,HO1.out,(Kept.refl _ w).below HB1.out⟩
 ·obtain ⟨b,cap,hv,hbb,hbl⟩:=HO1.out.shape h0
  obtain ⟨rfl,rfl⟩:a1 = some ⟨b,0,none⟩∧c1 = cap:=by cases hv;exact ⟨rfl,rfl⟩
  obtain ⟨N,hN⟩:∃ N,l.length - 1 = N:=⟨_,rfl⟩
  have hn1:(l.length:Int) - 1 = (N:Int):=by omega
  have hst:ShufSt w g s l b c1 N s l w1:=⟨HS1.out,HO1.out,rfl,by unfold shufL;rw [hN],(Kept.refl _ w).below HB1.out,by omega⟩
  have HST:=Lib.hid hst
  have HN:=Lib.hid hN
  clear hv hst hN
  go_wp2
  try rw [hn1]
  go_loopw [6,7] (fun iv _ W=>∃ (i s':Nat) (cur:List Int),iv = .int .i64 (i:Int)∧ShufSt w g s l b c1 i s' cur W) (fun iv _ _=>(intOf iv).toNat)
  case atStart=>exact ⟨N,s,l,by first | rfl | (congr 1),HST.out⟩
  case round=>
   obtain ⟨i,s',cur,rfl,hst⟩:=hrel
   cases i with
   | zero=>
    have he:=hst.eq
    have hln:=hst.len
    have HO:=Lib.hid hst.own
    have HK:=Lib.hid hst.kept
    have HE:=Lib.hid (show shufL s l = cur from he)
    have HLN:=Lib.hid hln
    clear he hln hst
    go_wp2
    go_ret
    exact ⟨_,rfl,by rw [HE.out];have:=HO.out;rwa [HLN.out] at this,HK.out⟩
   | succ j=>
    have hnx:shufF (j + 1) s' cur = shufF j (nextN s') (swapL cur (j + 1) (belowN s' (j + 2))):=rfl
    have heq:=hst.eq.trans hnx
    have hle:=hst.le
    have hln:=hst.len
    have hk:=below_lt s' (j + 2) (by omega)
    have hB:=Below_any g s' (j + 2) wr hst.src (by omega)
    obtain ⟨I,hI⟩:∃ I,j + 1 = I:=⟨_,rfl⟩
    have e2:((j + 2:Nat):Int) = (I:Int) + 1:=by omega
    rw [e2] at hB
    rw [hI] at heq hle ⊢
    obtain ⟨k,hke⟩:∃ k,belowN s' (j + 2) = k:=⟨_,rfl⟩
    rw [hke] at hB heq hk
    have hkl:k < cur.length:=by omega
    have hIl:I < cur.length:=by omega
    have hI0:(0:Int) < (I:Int):=by omega
    have w1':IntKind.u64.wrap (I:Int) = (I:Int):=by rw [IntKind.wrap_u64];omega
    have w2':IntKind.u64.wrap ((I:Int) + 1) = (I:Int) + 1:=by rw [IntKind.wrap_u64];omega
    have w3':IntKind.i64.wrap (k:Int) = (k:Int):=by rw [IntKind.wrap_i64];omega
    have hIn:(I:Int) < (l.length:Int):=by omega
    have hkn:(k:Int) < (l.length:Int):=by omega
    have hIj:(I:Int) - 1 = (j:Int):=by omega
    have HST2:=Lib.hid hst
    have HB2:=Lib.hid hB
    have HEQ:=Lib.hid heq
    have HLN:=Lib.hid hln
    have HII:=Lib.hid hI
    have HIJ:=Lib.hid hIj
    have HKL:=Lib.hid hkl
    have HIL:=Lib.hid hIl
    clear hst hB heq hnx e2 hke hI hk hIj hln hkl hIl
    go_upto_region 6 with (go_at_call 172;refine HB2.out.mono ?_;rintro e w5 ⟨rfl,h5,hg5,hz5⟩;have H5:=Lib.hid h5;have HG5:=Lib.hid hg5;have HZ5:=Lib.hid hz5;clear h5 hg5 hz5)
    have hbg:b ≠ g:=by omega
    have ho5:OwnN w5 w.heap.size (.slice (some ⟨b,0,none⟩) cur.length c1) cur:=HST2.out.own.kept fun k' hk'=>HG5.out.block _ (HST2.out.own.lt k' hk').2 (fun e=>by have h1:=Option.some.inj e;have h2:=(HST2.out.own.lt k' hk').1;omega)
    obtain ⟨ci,fi⟩:=ho5.cell HIL.out
    obtain ⟨ck,fk⟩:=ho5.cell HKL.out
    have HO5:=Lib.hid ho5
    obtain ⟨xi,hxi⟩:∃ x,cur.getD I 0 = x:=⟨_,rfl⟩
    obtain ⟨xk,hxk⟩:∃ x,cur.getD k 0 = x:=⟨_,rfl⟩
    rw [hxi] at ci
    rw [hxk] at ck
    have HXI:=Lib.hid hxi
    have HXK:=Lib.hid hxk
    have mixed:Tryz.prog.follows .mixedOrders = true:=by kernel_rfl
    have ho6:=ho5.set I xk
    have c6:(w5.setCell ⟨b,I,none⟩ (.int .i64 xk)).cell? ⟨b,k,none⟩ = some (.int .i64 xk):=by
     have h1:=(show OwnN (w5.setCell ⟨b,I,none⟩ (.int .i64 xk)) w.heap.size (.slice (some ⟨b,0,none⟩) (cur.set I xk).length c1) (cur.set I xk) from by rw [List.length_set];exact ho6).cell (i:=k) (by rw [List.length_set];exact HKL.out)
     rw [h1.1]
     congr 2
     by_cases e:I = k
     ·subst e;simp [List.getD,HIL.out]
     ·rw [← hxk];simp [List.getD,List.getElem?_set,e]
    have f6:(w5.setCell ⟨b,I,none⟩ (.int .i64 xk)).frozen? ⟨b,k,none⟩ = false:=by rw [World.frozen?_setCell];exact fk
    clear ho5 ho6 hxi hxk
    go_region_o
    generalize hW9:World.drew _ = W9
    have hst9:ShufSt w g s l b c1 j (nextN s') (swapL cur I k) W9:=by
     subst hW9
     have q1:=HO5.out.set I xk
     have q2:=(show OwnN (w5.setCell ⟨b,I,none⟩ (.int .i64 xk)) w.heap.size (.slice (some ⟨b,0,none⟩) (cur.set I xk).length c1) (cur.set I xk) from by rw [List.length_set];exact q1).set k xi
     have hb5:∀ (W:World) (i:Nat) (x:Value) (h:Nat),h ≠ b→(W.setCell ⟨b,i,none⟩ x).heap[h]? = W.heap[h]?:=fun W i x h hne=>Below.heap_setCell _ _ _ _ hne
     refine ⟨⟨?_,H5.out.2⟩,?_,by rw [swapL_len];exact HLN.out,HEQ.out,?_,by have:=HII.out;omega⟩
     ·exact (show One ((w5.setCell ⟨b,I,none⟩ (.int .i64 xk)).setCell ⟨b,k,none⟩ (.int .i64 xi)) g _ _ from H5.out.1.of_block ((hb5 _ _ _ _ (fun e=>hbg e.symm)).trans (hb5 _ _ _ _ (fun e=>hbg e.symm))))
     ·unfold swapL
      rw [HXI.out,HXK.out,List.length_set,List.length_set]
      rw [List.length_set] at q2
      exact q2.kept (fun k' hk'=>rfl)
     ·have h1:Kept (fun k=>k ≠ g) w w5:=HST2.out.kept.grown HG5.out (fun r e=>by cases e;exact fun h=>h rfl)
      have hwb:∀ j',j' < w.heap.size→j' ≠ b:=fun j' hj e=>by omega
      refine ⟨h1.os,h1.tape,h1.output,?_,fun j' hj hu=>?_⟩
      ·show w.heap.size ≤ ((w5.setCell ⟨b,I,none⟩ (.int .i64 xk)).setCell ⟨b,k,none⟩ (.int .i64 xi)).heap.size
       simp only [World.size_setCell]
       exact h1.size
      ·exact ((hb5 _ _ _ _ (hwb j' hj)).trans (hb5 _ _ _ _ (hwb j' hj))).trans (h1.block j' hj hu)
    have HST9:=Lib.hid hst9
    clear hW9 hst9 c6 f6 ci fi ck fk
    go_wp2
    try rw [HIJ.out]
    go_roundw
    case rel=>exact ⟨j,nextN s',swapL cur I k,by first | rfl | (congr 1),HST9.out⟩
    case measure=>have:=HII.out;simp [intOf];omega
theorem Ints.first {w:World} {v:Value} {l:List Int} (h:Ints w v l) (N:Nat) (h2:N ≤ l.length) :
  ∃ v',(∀ W:World,(Instr.slice 32 v .none (some (.int .i64 (N:Int))) Option.none).run Tryz.prog W = .ok v' W)∧Ints w v' (l.take N):=by
 obtain ⟨i,hi0,hz,hsize,hby⟩:=info_parts infoInt
 obtain ⟨v',hr,hrow,hob⟩:=Row.run_part h Tryz.underlying32 hi0 hsize .none (some (.int .i64 (N:Int))) 0 N (Nat.zero_le _) h2 (.inl ⟨rfl,rfl⟩) (.inr ⟨_,rfl⟩)
 refine ⟨v',hr,?_⟩
 have e:(l.take N).length = N:=by simp;omega
 unfold Ints
 rw [e]
 simpa [List.map_take] using hrow
theorem Ints.firstO {w:World} {v:Value} {l:List Int} (h:Ints w v l) (N:Nat) (h2:N ≤ l.length) :
  ∃ v',(∀ W:World,(Instr.slice 32 v .none (some (.int .i64 (N:Int))) Option.none).run Tryz.prog W = .ok v' W)∧Ints w v' (l.take N)∧v'.ownBlock = v.ownBlock:=by
 obtain ⟨i,hi0,hz,hsize,hby⟩:=info_parts infoInt
 obtain ⟨v',hr,hrow,hob⟩:=Row.run_part h Tryz.underlying32 hi0 hsize .none (some (.int .i64 (N:Int))) 0 N (Nat.zero_le _) h2 (.inl ⟨rfl,rfl⟩) (.inr ⟨_,rfl⟩)
 refine ⟨v',hr,?_,hob⟩
 have e:(l.take N).length = N:=by simp;omega
 unfold Ints
 rw [e]
 simpa [List.map_take] using hrow
theorem samp_num (k:Int) (n:Nat):∃ N:Nat,max 0 (min k (n:Int)) = (N:Int)∧(max 0 (min k (n:Int))).toNat = N∧N ≤ n:=⟨(max 0 (min k (n:Int))).toNat,by omega,rfl,by omega⟩
set_option maxHeartbeats 1600000 in
theorem SampleO_any (g s:Nat) (v:Value) (l:List Int) (k:Int) (w:World) (hs:SrcO w g s) (hl:Ints w v l) (hlen:l.length ≤ 1000000) :
  Calls Tryz.prog 86 #[.pointer (some ⟨g,0,none⟩),v,.int .i64 k] w fun e w'=>∃ v',e = .returned v'∧Ints w' v' (sampleL s l k)∧Kept (fun k=>k ≠ g) w w'∧∀ q,v'.ownBlock = some q→w.heap.size ≤ q∧∃ cur,w'.heap[q]? = some (.cells cur 3 (0,0)):=by
 obtain ⟨N,hN,hN2,hNl⟩:=samp_num k l.length
 have hsl:(shufL s l).length = l.length:=(shufL_perm s l).length_eq
 obtain ⟨S,hS⟩:∃ S,shufL s l = S:=⟨_,rfl⟩
 have hsam:sampleL s l k = S.take N:=by unfold sampleL;rw [hS,hN2]
 rw [hsam]
 rw [hS] at hsl
 rw [← hsl] at hN hNl
 have HSS:=Lib.hid hS
 have HNL:=Lib.hid hNl
 have hsh:=Shuffle_any g s v l w hs hl hlen
 rw [hS] at hsh
 have HSH:=Lib.hid hsh
 clear hS hNl hsam hN2 hs hl hsl hsh
 go_enter Tryz.func86,Tryz.ntmps86
 go_upto_region 2 with (go_at_call 142;refine HSH.out.mono ?_;rintro e w1 ⟨v1,rfl,ho1,hb1⟩;have HO1:=Lib.hid ho1;have HB1:=Lib.hid hb1;clear ho1 hb1)
 obtain ⟨a1,c1,hv⟩:=HO1.out.ints.len
 obtain ⟨v2,hr2,hi2,hob⟩:=HO1.out.ints.firstO N HNL.out
 have HOB:=Lib.hid (fun q (hq:v2.ownBlock = some q)=>And.intro (HO1.out.lt q (hob ▸ hq)).1 (HO1.out.block (hob ▸ hq)))
 clear hob
 subst hv
 have HI2:=Lib.hid hi2
 clear hi2
 have hcase:(N = 0∧(k ≤ 0∨S.length = 0))∨(k = (N:Int)∧0 < N∧N ≤ S.length)∨(N = S.length∧0 < S.length∧(S.length:Int) < k):=by omega
 clear hN
 rcases hcase with ⟨rfl,h⟩ | ⟨rfl,h0,h1⟩ | ⟨rfl,h0,h1⟩
 ·rw [show ((0:Nat):Int) = 0 from rfl] at hr2
  rcases h with h | h
  ·have h1:¬ (S.length:Int) < k:=by omega
   have h2:¬ 0 < k:=by omega
   go_wp2
   go_ret
   exact ⟨_,rfl,HI2.out,HB1.out,HOB.out⟩
  ·rw [h] at hr2 ⊢
   by_cases h2:0 < k
   ·go_wp2
    go_ret
    exact ⟨_,rfl,HI2.out,HB1.out,HOB.out⟩
   ·go_wp2
    go_ret
    exact ⟨_,rfl,HI2.out,HB1.out,HOB.out⟩
 ·have h2:¬ S.length < N:=by omega
  go_wp2
  go_ret
  exact ⟨_,rfl,HI2.out,HB1.out,HOB.out⟩
 ·go_wp2
  go_ret
  exact ⟨_,rfl,HI2.out,HB1.out,HOB.out⟩
theorem DNew_any (s:Nat) (w:World) (hs:s < 18446744073709551616) :
  Calls Tryz.prog 85 #[.int .u64 (s:Int)] w fun e w'=>∃ g,e = .returned (.pointer (some ⟨g,0,none⟩))∧SrcO w' g s∧w.heap.size ≤ g∧Below w.heap.size w w':=by
 have hb:∀ (x:Int) (w:World),(Instr.build 224 #[(0,.int .u64 x)]).run Tryz.prog w = .ok (.agg #[.int .u64 x]) w:=fun x w=>by kernel_rfl
 go_enter Tryz.func85,Tryz.ntmps85
 go_wp2
 go_ret
 refine ⟨_,rfl,⟨?_,hs⟩,Nat.le_refl _,(Below.refl _ w).alloc (Nat.le_refl _) _⟩
 exact heap_alloc_new w _
end Go.Proofs.YtnohglkilpnjhaaGreatDoor
namespace Go.Proofs.YtnohglkilpnjhaaGreatDoor
structure MemL where
 id:Int
 inc:Int
 state:Int
 since:Int
deriving DecidableEq
structure MsgL where
 kind:Int
 hash:List UInt8
 piece:Int
 ids:List Int
 bytes:List UInt8
 proof:List (List UInt8)
 members:List MemL
 seed:Bool
deriving DecidableEq
def zero32:List UInt8:=List.replicate 32 0
def hasL (k:Int):List Int:=
 if k = 1 then [1,2,5] else if k = 10 then [1,2,5] else if k = 2 then [1,2,3] else if k = 3 then [1,2,3] else if k = 5 then [1,2,3] else if k = 4 then [1,2,3,5,6] else if k = 6 then [1,2,8] else if k = 7 then [1,2,4]
 else if k = 8 then [1,7] else if k = 9 then [1,2] else if k = 11 then [1,2] else []
def mostL (k:Int):Int:=if k = 1 then 128 else if k = 4 then 16384 else if k = 10 then 4096 else 0
def withinB (n lo hi:Int):Bool:=decide (lo ≤ n) && decide (n ≤ hi)
def idB (n:Int):Bool:=withinB n 1 65536
def memB (x:MemL):Bool:=idB x.id && withinB x.inc 0 1073741824 && withinB x.state 1 3
def memB0 (x:MemL):Bool:=memB x && decide (x.since = 0)
def bareB (m:MsgL) (i:Int):Bool:=
 if i = 1 then false else if i = 2 then decide (m.hash = zero32) else if i = 3 then decide (m.piece = 0) else if i = 4 then decide (m.ids.length = 0) else if i = 5 then decide (m.bytes.length = 0) else if i = 6 then decide (m.proof.length = 0)
 else if i = 7 then decide (m.members.length = 0) else !m.seed
def fitsB (m:MsgL) (i:Int):Bool:=
 if i = 3 then withinB m.piece 0 1023 else if i = 4 then decide (m.ids.length ≤ 64) && m.ids.all idB else if i = 5 then withinB m.bytes.length 1 (mostL m.kind) else if i = 6 then decide (m.proof.length ≤ 10)
 else if i = 7 then withinB m.members.length 1 65 && m.members.all memB0 else true
def itemB (m:MsgL) (i:Int):Bool:=if i ∈ hasL m.kind then fitsB m i else bareB m i
def rightF (m:MsgL):Nat→Int→Bool
 | 0,_=>true
 | f + 1,i=>itemB m i && rightF m f (i + 1)
def wrightB (m:MsgL):Bool:=rightF m 8 1
def rhasL (k:Int):Bool × Bool × Bool × Int × Bool × Bool × Bool:=
 if k = 1 then (true,false,false,128,false,false,false) else if k = 2 then (true,true,false,0,false,false,false) else if k = 3 then (true,true,false,0,false,false,false) else if k = 5 then (true,true,false,0,false,false,false)
 else if k = 4 then (true,true,false,16384,true,false,false) else if k = 6 then (true,false,false,0,false,false,true) else if k = 7 then (true,false,true,0,false,false,false) else if k = 8 then (false,false,false,0,false,true,false)
 else if k = 10 then (true,false,false,4096,false,false,false) else (true,false,false,0,false,false,false)
theorem kinds (k:Int):k = 1∨k = 2∨k = 3∨k = 4∨k = 5∨k = 6∨k = 7∨k = 8∨k = 9∨k = 10∨k = 11∨(k < 1∨11 < k):=by omega
theorem hasL_none {k:Int} (h:k < 1∨11 < k):hasL k = []:=by
 unfold hasL
 simp [show ¬ k = 1 by omega,show ¬ k = 2 by omega,show ¬ k = 3 by omega,show ¬ k = 4 by omega,show ¬ k = 5 by omega,show ¬ k = 6 by omega,show ¬ k = 7 by omega,show ¬ k = 8 by omega,show ¬ k = 9 by omega,show ¬ k = 10 by omega,show ¬ k = 11 by omega]
theorem wrightB_eq (m:MsgL):wrightB m = (itemB m 1 && (itemB m 2 && (itemB m 3 && (itemB m 4 && (itemB m 5 && (itemB m 6 && (itemB m 7 && itemB m 8))))))):=by
 simp [wrightB,rightF]
def rTest1 (m:MsgL):Bool:=decide (m.kind < 1) || decide (11 < m.kind) || decide (m.piece < 0) || decide (1023 < m.piece) || decide (64 < (m.ids.length:Int)) || decide (10 < (m.proof.length:Int)) || decide (65 < (m.members.length:Int))
def rTest2 (m:MsgL):Bool:=
 (!(rhasL m.kind).1 && !decide (m.hash = zero32)) || (!(rhasL m.kind).2.1 && !decide (m.piece = 0)) || (!(rhasL m.kind).2.2.1 && decide (0 < (m.ids.length:Int))) || (!(rhasL m.kind).2.2.2.2.1 && decide (0 < (m.proof.length:Int))) || (!(rhasL m.kind).2.2.2.2.2.2 && m.seed)
def rTest3 (m:MsgL):Bool:=
 decide ((rhasL m.kind).2.2.2.1 < (m.bytes.length:Int)) || (decide (0 < (rhasL m.kind).2.2.2.1) && decide ((m.bytes.length:Int) = 0)) || ((rhasL m.kind).2.2.2.2.2.1 != decide (0 < (m.members.length:Int)))
def rrightB (m:MsgL):Bool:=!rTest1 m && !rTest2 m && !rTest3 m && m.ids.all idB && m.members.all memB0
set_option maxHeartbeats 1600000 in
theorem rrightB_eq (m:MsgL):rrightB m = wrightB m:=by
 rw [wrightB_eq]
 obtain ⟨kind,hash,piece,ids,bytes,proof,members,seed⟩:=m
 unfold rrightB rTest1 rTest2 rTest3
 rw [Bool.eq_iff_iff]
 rcases kinds kind with h | h | h | h | h | h | h | h | h | h | h | h
 case inr.inr.inr.inr.inr.inr.inr.inr.inr.inr.inr=>
  have e:itemB ⟨kind,hash,piece,ids,bytes,proof,members,seed⟩ 1 = false:=by simp [itemB,hasL_none h,bareB]
  rw [e]
  simp only [Bool.false_and,Bool.false_eq_true,iff_false]
  intro hc
  simp only [Bool.and_eq_true,Bool.not_eq_true',Bool.or_eq_false_iff,decide_eq_false_iff_not] at hc
  omega
 all_goals
  subst h
  have hI:ids.length = 0→ids.all idB = true:=fun h=>by rw [List.length_eq_zero_iff.1 h];rfl
  have hM:members.length = 0→members.all memB0 = true:=fun h=>by rw [List.length_eq_zero_iff.1 h];rfl
  simp only [itemB,hasL,rhasL,fitsB,bareB,mostL,withinB]
  generalize ids.all idB = I at *
  generalize members.all memB0 = M at *
  generalize ids.length = a at *
  generalize members.length = b at *
  generalize bytes.length = c at *
  generalize proof.length = d at *
  generalize decide (hash = zero32) = z
  cases I <;> cases M <;> cases seed <;> cases z <;> simp at hI hM ⊢ <;> omega
end Go.Proofs.YtnohglkilpnjhaaGreatDoor
