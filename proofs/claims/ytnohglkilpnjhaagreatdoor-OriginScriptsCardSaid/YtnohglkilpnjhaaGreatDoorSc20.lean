/- Lemmas that the statement of this claim leans on; their own comments are taken out, for the size of the claim. No condition beyond what each lemma states. -/
import Derived.Test.YtnohglkilpnjhaaGreatDoorSc19
set_option linter.unusedVariables false
set_option linter.unusedSimpArgs false
set_option linter.unusedSectionVars false
namespace Go.Proofs.YtnohglkilpnjhaaGreatDoor
open Go.RowKit
set_option maxRecDepth 100000
def RSrcO (w:World) (g s:Nat):Prop:=One w g (.int .u64 (s:Int)) 234∧s < 18446744073709551616
set_option maxHeartbeats 1600000 in
theorem Mix_any (S:Nat) (w:World) (hS:S < 18446744073709551616) :
  Calls Tryz.prog 217 #[.int .u64 (S:Int)] w fun e w'=>e = .returned (.int .u64 (mixN S:Nat))∧w' = w:=by
 obtain ⟨X,M,Y,N,x1,m1,x2,m2,x3⟩:=mix_facts S hS
 obtain ⟨Z,hZ⟩:∃ Z,mixN S = Z:=⟨_,rfl⟩
 rw [hZ] at x3 ⊢
 clear hZ
 go_enter Tryz.func217,Tryz.ntmps217
 go_wp2
 go_ret
 exact ⟨rfl,rfl⟩
set_option maxHeartbeats 1600000 in
theorem RNext_any (g s:Nat) (w:World) (hs:RSrcO w g s) :
  Calls Tryz.prog 208 #[.pointer (some ⟨g,0,none⟩)] w fun e w'=>e = .returned (.int .u64 (mixN (nextN s):Nat))∧RSrcO w' g (nextN s)∧w.grownBy w' (some g)∧w'.heap.size = w.heap.size:=by
 obtain ⟨ho,hlt⟩:=hs
 have hc:=ho.cell
 have hf:=ho.free
 go_enter Tryz.func208,Tryz.ntmps208
 go_upto_region 2 with (fail)
 generalize hW:World.setCell w _ _ = W1
 obtain ⟨h1,hg,hz⟩:RSrcO W1 g (nextN s)∧w.grownBy W1 (some g)∧W1.heap.size = w.heap.size:=by
  subst hW
  have e:∀ x:Int,x = ((nextN s:Nat):Int)→RSrcO (w.setCell ⟨g,0,none⟩ (.int .u64 x)) g (nextN s):=fun x hx=>by rw [hx];exact ⟨ho.set _,next_lt s⟩
  refine ⟨e _ ?_,⟨rfl,rfl,rfl,by simp,fun k hk hne=>Below.heap_setCell _ _ _ _ (fun q=>hne (by rw [q]))⟩,by simp⟩
  rw [IntKind.wrap_u64]
  unfold nextN
  omega
 clear hW hc hf ho
 have hc1:=h1.1.cell
 obtain ⟨S,hSe⟩:∃ S,nextN s = S:=⟨_,rfl⟩
 rw [hSe] at h1 hc1
 have hM:=Mix_any S W1 h1.2
 have HSE:=Lib.hid hSe
 have HM:=Lib.hid hM
 have H1:=Lib.hid h1
 have HG:=Lib.hid hg
 have HZ:=Lib.hid hz
 clear h1 hg hz hM hSe
 go_wp2_with (go_at_call 217;refine HM.out.mono ?_;rintro e w' ⟨rfl,rfl⟩)
 go_ret
 exact ⟨by rw [HSE.out];rfl,by rw [HSE.out];exact H1.out,HG.out,HZ.out⟩
set_option maxHeartbeats 1600000 in
theorem RBelow_any (g s n:Nat) (w:World) (hs:RSrcO w g s) (hn:n < 18446744073709551616) :
  Calls Tryz.prog 189 #[.pointer (some ⟨g,0,none⟩),.int .u64 (n:Int)] w fun e w'=>e = .returned (.int .u64 (belowN s n:Nat))∧RSrcO w' g (nextN s)∧w.grownBy w' (some g)∧w'.heap.size = w.heap.size:=by
 have hN:=RNext_any g s w hs
 obtain ⟨bd,bt,bw,hhi⟩:=Lib.mul64_hi (mixN (nextN s)) n (mix_lt _) hn
 have hxl:=mix_lt (nextN s)
 have hb:mixN (nextN s) * n / 18446744073709551616 = belowN s n:=rfl
 rw [hb] at hhi
 obtain ⟨B,hB⟩:∃ B,belowN s n = B:=⟨_,rfl⟩
 rw [hB] at hhi
 obtain ⟨x,hX⟩:∃ X,mixN (nextN s) = X:=⟨_,rfl⟩
 rw [hX] at hhi hN bd bt bw hxl
 have HN:=Lib.hid hN
 have HB:=Lib.hid hB
 clear hN hb hB hX
 have ba:=Lib.half_mul_le (a:=x / 4294967296) (b:=n / 4294967296) (by omega) (by omega)
 have bb:=Lib.half_mul_le (a:=x / 4294967296) (b:=n % 4294967296) (by omega) (by omega)
 have bc:=Lib.half_mul_le (a:=x % 4294967296) (b:=n / 4294967296) (by omega) (by omega)
 go_enter Tryz.func189,Tryz.ntmps189
 go_wp2_with (go_at_call 208;refine HN.out.mono ?_;rintro e w1 ⟨rfl,h1,hg1,hz1⟩;have H1:=Lib.hid h1;have HG1:=Lib.hid hg1;have HZ1:=Lib.hid hz1;clear h1 hg1 hz1)
 have ba':x / 4294967296 * (n / 4294967296) < 18446744073709551616:=by omega
 have bb':x / 4294967296 * (n % 4294967296) < 18446744073709551616:=by omega
 have bc':x % 4294967296 * (n / 4294967296) < 18446744073709551616:=by omega
 have bq1:x % 4294967296 * (n % 4294967296) / 4294967296 < 18446744073709551616:=by omega
 have bw':x % 4294967296 * (n / 4294967296) + (x / 4294967296 * (n % 4294967296) + x % 4294967296 * (n % 4294967296) / 4294967296) % 4294967296 < 18446744073709551616:=by omega
 have bq2:(x / 4294967296 * (n % 4294967296) + x % 4294967296 * (n % 4294967296) / 4294967296) / 4294967296 < 18446744073709551616:=by omega
 have bq3:(x % 4294967296 * (n / 4294967296) + (x / 4294967296 * (n % 4294967296) + x % 4294967296 * (n % 4294967296) / 4294967296) % 4294967296) / 4294967296 < 18446744073709551616:=by omega
 have bh1:x / 4294967296 * (n / 4294967296) + (x / 4294967296 * (n % 4294967296) + x % 4294967296 * (n % 4294967296) / 4294967296) / 4294967296 < 18446744073709551616:=by omega
 have bh:x / 4294967296 * (n / 4294967296) + (x / 4294967296 * (n % 4294967296) + x % 4294967296 * (n % 4294967296) / 4294967296) / 4294967296 + (x % 4294967296 * (n / 4294967296) + (x / 4294967296 * (n % 4294967296) + x % 4294967296 * (n % 4294967296) / 4294967296) % 4294967296) / 4294967296 < 18446744073709551616:=by omega
 have hh2:x / 4294967296 * (n / 4294967296) + (x / 4294967296 * (n % 4294967296) + x % 4294967296 * (n % 4294967296) / 4294967296) / 4294967296 + (x % 4294967296 * (n / 4294967296) + (x / 4294967296 * (n % 4294967296) + x % 4294967296 * (n % 4294967296) / 4294967296) % 4294967296) / 4294967296 = B:=by omega
 simp only [tdivN11,tmodN11,divN11,modN11,mulN11,addN11,wrapN11 _ bd,wrapN11 _ bq1,wrapN11 _ bb',wrapN11 _ bt,wrapN11 _ bc',wrapN11 _ bw',wrapN11 _ bq2,wrapN11 _ bq3,wrapN11 _ ba',wrapN11 _ bh1,wrapN11 _ bh]
 rw [hh2]
 go_ret
 exact ⟨by rw [HB.out];rfl,H1.out,HG1.out,HZ1.out⟩
structure RShufSt (w0:World) (g s:Nat) (l:List Int) (b cap:Nat) (i s':Nat) (cur:List Int) (W:World):Prop where
 src:RSrcO W g s'
 own:OwnN W w0.heap.size (.slice (some ⟨b,0,none⟩) cur.length cap) cur
 len:cur.length = l.length
 eq:shufL s l = shufF i s' cur
 kept:Kept (fun k=>k ≠ g) w0 W
 le:i ≤ l.length - 1
set_option maxHeartbeats 3200000 in
theorem RShuffle_any (g s:Nat) (v:Value) (l:List Int) (w:World) (hs:RSrcO w g s) (hl:Ints w v l) (hlen:l.length ≤ 1000000) :
  Calls Tryz.prog 178 #[.pointer (some ⟨g,0,none⟩),v] w fun e w'=>∃ v',e = .returned v'∧OwnN w' w.heap.size v' (shufL s l)∧Kept (fun k=>k ≠ g) w w':=by
 obtain ⟨a,c,hv⟩:=hl.len
 subst hv
 cases a with
 | none=>
  have hl0:l = []∧c = 0:=by
   obtain ⟨_,a',c',hv',h1,_,h3,_⟩:=hl
   cases hv'
   have:=h3 rfl
   exact ⟨List.eq_nil_of_length_eq_zero (by omega),this⟩
  obtain ⟨rfl,rfl⟩:=hl0
  have HO:=Lib.hid (ownN_empty w)
  have HB1:=Lib.hid ((Below.refl _ w).alloc (Nat.le_refl _) (.cells #[] 3))
  clear hl hs
  go_enter Tryz.func178,Tryz.ntmps178
  go_upto_region 3 with (fail)
  go_loopw [6,7,8] (fun iv _ _ W=>iv = .int .i64 (-1)∧W = w.alloc (.cells #[] 3)) (fun _ _ _ _=>0)
  case atStart=>exact ⟨rfl,rfl⟩
  case round=>
   obtain ⟨rfl,rfl⟩:=hrel
   go_wp2
   go_ret
   exact ⟨_,rfl,HO.out,(Kept.refl _ w).below HB1.out⟩
 | some a=>
 have HL:=Lib.hid hl
 have HS:=Lib.hid hs
 have hgl:=hs.1.lt
 have HO:=Lib.hid (ownN_empty w)
 have HL2:=Lib.hid (hl.of_new ((Below.refl _ w).alloc (Nat.le_refl _) (.cells #[] 3)))
 clear hl hs
 go_enter Tryz.func178,Tryz.ntmps178
 go_upto_region 2 with ((with_reducible refine wpList_plain (o:=⟨some 11,_,_,_,_,_⟩) rfl fun K hK=>?_);refine wp_appN (.tmp 9) (.tmp 10) rfl w.heap.size _ [] rfl HO.out _ l rfl HL2.out (by simp;omega) (by simp) fun v1 w1 hown1 hg1 hu1=>hK _ _ ?_;have hb1:=((Below.refl _ w).alloc (Nat.le_refl _) (.cells #[] 3)).grown hg1 (by simp) (fun j hj=>by cases hj <;> exact Nat.le_refl _);have ho1:OwnN w1 w.heap.size v1 l:=(by simpa using hown1);obtain ⟨a1,c1,hv⟩:=ho1.ints.len;subst hv;have HO1:=Lib.hid ho1;have HB1:=Lib.hid hb1;have HS1:=Lib.hid (show RSrcO w1 g s from ⟨HS.out.1.of_new hb1,HS.out.2⟩);clear hown1 ho1 hb1 hg1 hu1)
 rcases Nat.eq_zero_or_pos l.length with h0 | h0
 ·have hl0:l = []:=List.length_eq_zero_iff.1 h0
  subst hl0
  simp only [List.length_nil]
  go_wp2
  go_loopw [6,7,8] (fun iv _ _ W=>iv = .int .i64 (-1)∧W = w1) (fun _ _ _ _=>0)
  case atStart=>exact ⟨rfl,rfl⟩
  case round=>
   obtain ⟨rfl,rfl⟩:=hrel
   go_wp2
   go_ret
   exact ⟨_,rfl,HO1.out,(Kept.refl _ w).below HB1.out⟩
 ·obtain ⟨b,cap,hv,hbb,hbl⟩:=HO1.out.shape h0
  obtain ⟨rfl,rfl⟩:a1 = some ⟨b,0,none⟩∧c1 = cap:=by cases hv;exact ⟨rfl,rfl⟩
  obtain ⟨N,hN⟩:∃ N,l.length - 1 = N:=⟨_,rfl⟩
  have hn1:(l.length:Int) - 1 = (N:Int):=by omega
  have hst:RShufSt w g s l b c1 N s l w1:=⟨HS1.out,HO1.out,rfl,by unfold shufL;rw [hN],(Kept.refl _ w).below HB1.out,by omega⟩
  have HST:=Lib.hid hst
  have HN:=Lib.hid hN
  clear hv hst hN
  go_wp2
  try rw [hn1]
  go_loopw [6,7,8] (fun iv _ _ W=>∃ (i s':Nat) (cur:List Int),iv = .int .i64 (i:Int)∧RShufSt w g s l b c1 i s' cur W) (fun iv _ _ _=>(intOf iv).toNat)
  case atStart=>exact ⟨N,s,l,by first | rfl | (congr 1),HST.out⟩
  case round=>
   obtain ⟨i,s',cur,rfl,hst⟩:=hrel
   cases i with
   | zero=>
    have he:=hst.eq
    have hln:=hst.len
    have HO:=Lib.hid hst.own
    have HK:=Lib.hid hst.kept
    have HE:=Lib.hid (show shufL s l = cur from he)
    have HLN:=Lib.hid hln
    clear he hln hst
    go_wp2
    go_ret
    exact ⟨_,rfl,by rw [HE.out];have:=HO.out;rwa [HLN.out] at this,HK.out⟩
   | succ j=>
    have hnx:shufF (j + 1) s' cur = shufF j (nextN s') (swapL cur (j + 1) (belowN s' (j + 2))):=rfl
    have heq:=hst.eq.trans hnx
    have hle:=hst.le
    have hln:=hst.len
    have hk:=below_lt s' (j + 2) (by omega)
    have hB:=RBelow_any g s' (j + 2) wr hst.src (by omega)
    obtain ⟨I,hI⟩:∃ I,j + 1 = I:=⟨_,rfl⟩
    have e2:((j + 2:Nat):Int) = (I:Int) + 1:=by omega
    rw [e2] at hB
    rw [hI] at heq hle ⊢
    obtain ⟨k,hke⟩:∃ k,belowN s' (j + 2) = k:=⟨_,rfl⟩
    rw [hke] at hB heq hk
    have hkl:k < cur.length:=by omega
    have hIl:I < cur.length:=by omega
    have hI0:(0:Int) < (I:Int):=by omega
    have w1':IntKind.u64.wrap (I:Int) = (I:Int):=by rw [IntKind.wrap_u64];omega
    have w2':IntKind.u64.wrap ((I:Int) + 1) = (I:Int) + 1:=by rw [IntKind.wrap_u64];omega
    have w3':IntKind.i64.wrap (k:Int) = (k:Int):=by rw [IntKind.wrap_i64];omega
    have hIn:(I:Int) < (l.length:Int):=by omega
    have hkn:(k:Int) < (l.length:Int):=by omega
    have hIj:(I:Int) - 1 = (j:Int):=by omega
    have HST2:=Lib.hid hst
    have HB2:=Lib.hid hB
    have HEQ:=Lib.hid heq
    have HLN:=Lib.hid hln
    have HII:=Lib.hid hI
    have HIJ:=Lib.hid hIj
    have HKL:=Lib.hid hkl
    have HIL:=Lib.hid hIl
    clear hst hB heq hnx e2 hke hI hk hIj hln hkl hIl
    go_upto_region 6 with (go_at_call 189;refine HB2.out.mono ?_;rintro e w5 ⟨rfl,h5,hg5,hz5⟩;have H5:=Lib.hid h5;have HG5:=Lib.hid hg5;have HZ5:=Lib.hid hz5;clear h5 hg5 hz5)
    have hbg:b ≠ g:=by omega
    have ho5:OwnN w5 w.heap.size (.slice (some ⟨b,0,none⟩) cur.length c1) cur:=HST2.out.own.kept fun k' hk'=>HG5.out.block _ (HST2.out.own.lt k' hk').2 (fun e=>by have h1:=Option.some.inj e;have h2:=(HST2.out.own.lt k' hk').1;omega)
    obtain ⟨ci,fi⟩:=ho5.cell HIL.out
    obtain ⟨ck,fk⟩:=ho5.cell HKL.out
    have HO5:=Lib.hid ho5
    obtain ⟨xi,hxi⟩:∃ x,cur.getD I 0 = x:=⟨_,rfl⟩
    obtain ⟨xk,hxk⟩:∃ x,cur.getD k 0 = x:=⟨_,rfl⟩
    rw [hxi] at ci
    rw [hxk] at ck
    have HXI:=Lib.hid hxi
    have HXK:=Lib.hid hxk
    have ho6:=ho5.set I xk
    have c6:(w5.setCell ⟨b,I,none⟩ (.int .i64 xk)).cell? ⟨b,k,none⟩ = some (.int .i64 xk):=by
     have h1:=(show OwnN (w5.setCell ⟨b,I,none⟩ (.int .i64 xk)) w.heap.size (.slice (some ⟨b,0,none⟩) (cur.set I xk).length c1) (cur.set I xk) from by rw [List.length_set];exact ho6).cell (i:=k) (by rw [List.length_set];exact HKL.out)
     rw [h1.1]
     congr 2
     by_cases e:I = k
     ·subst e;simp [List.getD,HIL.out]
     ·rw [← hxk];simp [List.getD,List.getElem?_set,e]
    have f6:(w5.setCell ⟨b,I,none⟩ (.int .i64 xk)).frozen? ⟨b,k,none⟩ = false:=by rw [World.frozen?_setCell];exact fk
    clear ho5 ho6 hxi hxk
    go_wp2
    generalize hW9:World.setCell (w5.setCell _ _) _ _ = W9
    have hst9:RShufSt w g s l b c1 j (nextN s') (swapL cur I k) W9:=by
     subst hW9
     have q1:=HO5.out.set I xk
     have q2:=(show OwnN (w5.setCell ⟨b,I,none⟩ (.int .i64 xk)) w.heap.size (.slice (some ⟨b,0,none⟩) (cur.set I xk).length c1) (cur.set I xk) from by rw [List.length_set];exact q1).set k xi
     have hb5:∀ (W:World) (i:Nat) (x:Value) (h:Nat),h ≠ b→(W.setCell ⟨b,i,none⟩ x).heap[h]? = W.heap[h]?:=fun W i x h hne=>Below.heap_setCell _ _ _ _ hne
     refine ⟨⟨?_,H5.out.2⟩,?_,by rw [swapL_len];exact HLN.out,HEQ.out,?_,by have:=HII.out;omega⟩
     ·exact (show One ((w5.setCell ⟨b,I,none⟩ (.int .i64 xk)).setCell ⟨b,k,none⟩ (.int .i64 xi)) g _ _ from H5.out.1.of_block ((hb5 _ _ _ _ (fun e=>hbg e.symm)).trans (hb5 _ _ _ _ (fun e=>hbg e.symm))))
     ·unfold swapL
      rw [HXI.out,HXK.out,List.length_set,List.length_set]
      rw [List.length_set] at q2
      exact q2.kept (fun k' hk'=>rfl)
     ·have h1:Kept (fun k=>k ≠ g) w w5:=HST2.out.kept.grown HG5.out (fun r e=>by cases e;exact fun h=>h rfl)
      have hwb:∀ j',j' < w.heap.size→j' ≠ b:=fun j' hj e=>by omega
      refine ⟨h1.os,h1.tape,h1.output,?_,fun j' hj hu=>?_⟩
      ·show w.heap.size ≤ ((w5.setCell ⟨b,I,none⟩ (.int .i64 xk)).setCell ⟨b,k,none⟩ (.int .i64 xi)).heap.size
       simp only [World.size_setCell]
       exact h1.size
      ·exact ((hb5 _ _ _ _ (hwb j' hj)).trans (hb5 _ _ _ _ (hwb j' hj))).trans (h1.block j' hj hu)
    have HST9:=Lib.hid hst9
    clear hW9 hst9 c6 f6 ci fi ck fk
    try rw [HIJ.out]
    go_roundw
    case rel=>exact ⟨j,nextN s',swapL cur I k,by first | rfl | (congr 1),HST9.out⟩
    case measure=>have:=HII.out;simp [intOf];omega
set_option maxHeartbeats 1600000 in
theorem RSampleO_any (g s:Nat) (v:Value) (l:List Int) (k:Int) (w:World) (hs:RSrcO w g s) (hl:Ints w v l) (hlen:l.length ≤ 1000000) :
  Calls Tryz.prog 154 #[.pointer (some ⟨g,0,none⟩),v,.int .i64 k] w fun e w'=>∃ v',e = .returned v'∧Ints w' v' (sampleL s l k)∧Kept (fun k=>k ≠ g) w w'∧∀ q,v'.ownBlock = some q→w.heap.size ≤ q:=by
 obtain ⟨N,hN,hN2,hNl⟩:=samp_num k l.length
 have hsl:(shufL s l).length = l.length:=(shufL_perm s l).length_eq
 obtain ⟨S,hS⟩:∃ S,shufL s l = S:=⟨_,rfl⟩
 have hsam:sampleL s l k = S.take N:=by unfold sampleL;rw [hS,hN2]
 rw [hsam]
 rw [hS] at hsl
 rw [← hsl] at hN hNl
 have HSS:=Lib.hid hS
 have HNL:=Lib.hid hNl
 have hsh:=RShuffle_any g s v l w hs hl hlen
 rw [hS] at hsh
 have HSH:=Lib.hid hsh
 clear hS hNl hsam hN2 hs hl hsl hsh
 go_enter Tryz.func154,Tryz.ntmps154
 go_upto_region 2 with (go_at_call 178;refine HSH.out.mono ?_;rintro e w1 ⟨v1,rfl,ho1,hb1⟩;have HO1:=Lib.hid ho1;have HB1:=Lib.hid hb1;clear ho1 hb1)
 obtain ⟨a1,c1,hv⟩:=HO1.out.ints.len
 obtain ⟨v2,hr2,hi2,hob⟩:=HO1.out.ints.firstO N HNL.out
 have HOB:=Lib.hid (fun q (hq:v2.ownBlock = some q)=>(HO1.out.lt q (hob ▸ hq)).1)
 clear hob
 subst hv
 have HI2:=Lib.hid hi2
 clear hi2
 have hcase:(N = 0∧(k ≤ 0∨S.length = 0))∨(k = (N:Int)∧0 < N∧N ≤ S.length)∨(N = S.length∧0 < S.length∧(S.length:Int) < k):=by omega
 clear hN
 rcases hcase with ⟨rfl,h⟩ | ⟨rfl,h0,h1⟩ | ⟨rfl,h0,h1⟩
 ·rw [show ((0:Nat):Int) = 0 from rfl] at hr2
  rcases h with h | h
  ·have h1:¬ (S.length:Int) < k:=by omega
   have h2:¬ 0 < k:=by omega
   go_wp2
   go_ret
   exact ⟨_,rfl,HI2.out,HB1.out,HOB.out⟩
  ·rw [h] at hr2 ⊢
   by_cases h2:0 < k
   ·go_wp2
    go_ret
    exact ⟨_,rfl,HI2.out,HB1.out,HOB.out⟩
   ·go_wp2
    go_ret
    exact ⟨_,rfl,HI2.out,HB1.out,HOB.out⟩
 ·have h2:¬ S.length < N:=by omega
  go_wp2
  go_ret
  exact ⟨_,rfl,HI2.out,HB1.out,HOB.out⟩
 ·go_wp2
  go_ret
  exact ⟨_,rfl,HI2.out,HB1.out,HOB.out⟩
theorem live_step {now:Int} {A:TabL} {d:List UInt8} {P:List PeerL}:liveT now (A ++ [(d,P)]) = if liveP now P = [] then liveT now A else liveT now A ++ [(d,liveP now P)]:=by
 rw [liveT_append]
 show liveT now A ++ (oneT d (liveP now P) ++ []) = _
 unfold oneT
 split <;> simp
theorem liveP_snoc (now:Int) (A:List PeerL) (p:PeerL):liveP now (A ++ [p]) = if p.till ≤ now then liveP now A else liveP now A ++ [p]:=by
 rw [liveP_append]
 by_cases h:p.till ≤ now
 ·rw [if_pos h];simp [liveP];omega
 ·rw [if_neg h];simp [liveP];omega
theorem midN_snoc (now:Int) (A:TabL) (a:List PeerL) (p:PeerL):midN now A (a ++ [p]) = if p.till ≤ now then midN now A a + 1 else midN now A a:=by
 have hl:=liveP_snoc now a p
 have:=liveP_len now a
 unfold midN
 rw [hl]
 split <;> simp <;> omega
set_option maxHeartbeats 6400000 in
theorem RExpire_any (r:Nat) (many most:Int) (B:Nat) (v:Value) (L:RefL) (T:TabL) (now:Int) (w:World) (hR:RTabP w r many most B v L T) (hT:TabOk many most T) (hm:1 ≤ many∧many ≤ 1000) (he:1 ≤ most∧most ≤ 64) :
  Calls Tryz.prog 101 #[.pointer (some ⟨r,0,none⟩),.int .i64 now] w
   (RPost w r many most B v (expT T now).1 (.tuple #[.int .i64 (expT T now).2.1,.int .i64 (expT T now).2.2])):=by
 have HR:=Lib.hid hR
 have HT:=Lib.hid hT
 rcases hw:within now 0 1099511627776 with _ | _
 ·have hx:expT T now = (T,0,1):=by
   unfold expT
   rw [if_neg (of_decide_eq_false hw)]
  rw [hx]
  clear hR hT hx
  go_enter Tryz.func101,Tryz.ntmps101
  go_wp2_with (go_at_call 97;refine (RIsMoment_any _ _).mono ?_;rintro e w1 ⟨rfl,rfl⟩)
  go_ret2
  exact ⟨_,_,rfl,HR.out,Kept.refl _ _⟩
 ·have hnow:0 ≤ now∧now ≤ 1099511627776:=of_decide_eq_true hw
  have hx:expT T now = (liveT now T,(goneN now T:Int),0):=by
   unfold expT
   rw [if_pos hnow]
  rw [hx]
  obtain ⟨va,vc,hv⟩:=hR.own.row.len
  subst hv
  have hLT:=hR.len
  obtain ⟨n,hn⟩:∃ n,T.length = n:=⟨_,rfl⟩
  rw [hLT,hn] at HR ⊢
  have hn1:n ≤ 1000:=by have:=hT.few;omega
  have hgn:goneN now T ≤ 64000:=by
   refine Nat.le_trans (gone_le2 now T 64 fun x hx=>by have:=(hT.ps x hx).2.2;omega) ?_
   rw [hn];omega
  have HN:=Lib.hid hn
  have HLT:=Lib.hid hLT
  have HGN:=Lib.hid hgn
  have HX:=Lib.hid hx
  clear hR hT hLT hn hgn hx
  go_enter Tryz.func101,Tryz.ntmps101
  go_wp2_with (go_at_call 97;refine (RIsMoment_any _ _).mono ?_;rintro e w1 ⟨rfl,rfl⟩)
  rename World=>w0
  go_loopw [7,8,9,10,11] (fun nv av iv _ _ W=>∃ (i:Nat) (La:RefL),i ≤ n∧iv = .int .i64 (i:Int)∧nv = .int .i64 (goneN now (T.take i):Int)∧ROf.Own W w0.heap.size av La∧La.map (·.1) = (liveT now (T.take i)).map (·.1)∧(∀ (j:Nat) (x:List UInt8 × Value) (y:List UInt8 × List PeerL),La[j]? = some x→(liveT now (T.take i))[j]? = some y→RPeer.Own W B x.2 y.2)∧Below w0.heap.size w0 W) (fun _ _ iv _ _ _=>n - (intOf iv).toNat)
  case atStart=>exact ⟨0,[],Nat.zero_le _,rfl,rfl,RecT.Own.nil _ _,rfl,(fun j x y hx=>by simp at hx),Below.refl _ _⟩
  case round=>
   rename World=>w1
   obtain ⟨i,La,hi,rfl,rfl,hown,hkeys,hrows,hb⟩:=hrel
   have hRr:=HR.out.of_new hb
   have c2:=hRr.cell2
   obtain ⟨aa,ac,hv⟩:=hown.row.len
   subst hv
   by_cases hlt:i < n
   ·have hii:(i:Int) < (n:Int):=by omega
    obtain ⟨⟨d,P⟩,hy⟩:∃ y,T[i]? = some y:=⟨_,List.getElem?_eq_getElem (by rw [HN.out];exact hlt)⟩
    obtain ⟨gv,gc,hv, -, -, -, -, -⟩:=hRr.form (by rw [HN.out];omega)
    have hva:va = some ⟨gv,0,none⟩:=(Value.slice.inj hv).1
    subst hva
    clear hv
    obtain ⟨aP,kP,hu,hrow,hcell, -, -, -⟩:=hRr.entry hy
    obtain ⟨x,hx⟩:∃ x,L[i]? = some x:=⟨_,List.getElem?_eq_getElem (by rw [HLT.out,HN.out];exact hlt)⟩
    obtain ⟨b9,off9,c9,hv9, -,hat9⟩:=hRr.own.row.at_ (by rw [HLT.out,HN.out];omega)
    have h9:=(Value.slice.inj hv9).1
    cases h9
    have hdg0:DigAt w1 gv (0 + i * 33) x.1:=ROf_dig (hat9 i x hx)
    rw [hRr.fst hx hy,Nat.zero_add] at hdg0
    have hdg:DigAt w1 gv (i * 33) d:=hdg0
    have hm32:d.length = 32:=HT.out.dig _ (List.mem_of_getElem? hy)
    have hP64:P.length ≤ 64:=by have:=(HT.out.ps _ (List.mem_of_getElem? hy)).2.2;dsimp only at this;omega
    have htk:=take_snoc_at hy
    have hgle:goneN now (T.take (i + 1)) ≤ 64000:=Nat.le_trans (goneN_take now T (i + 1)) HGN.out
    have hgle0:goneN now (T.take i) ≤ 64000:=Nat.le_trans (goneN_take now T i) HGN.out
    have hLal:La.length ≤ 1000:=by
     have h1:=congrArg List.length hkeys
     rw [List.length_map,List.length_map] at h1
     have h2:=liveT_len now (T.take i)
     rw [List.length_take] at h2
     omega
    obtain ⟨A,hA⟩:∃ A,T.take i = A:=⟨_,rfl⟩
    rw [hA] at htk hkeys hrows hgle0 ⊢
    rw [htk,← (midT_end (now:=now) (A:=A) (d:=d) (P:=P) (B:=[])).2] at hgle
    have hmid0:midN now A [] = goneN now A:=by unfold midN;simp [liveP]
    rw [← hmid0]
    have HTK:=Lib.hid htk
    have HKEYS:=Lib.hid hkeys
    have HROWS:=Lib.hid hrows
    have HOWN:=Lib.hid hown
    have HB:=Lib.hid hb
    have HROW:=Lib.hid hrow
    have HDG:=Lib.hid hdg
    have H32:=Lib.hid hm32
    have HC2:=Lib.hid c2
    have HCE:=Lib.hid hcell
    have HLAL:=Lib.hid hLal
    have HGLE:=Lib.hid hgle
    clear hv9 hat9 hdg0 hx hu hrow hA htk hkeys hrows hown hb hdg hm32 hRr hy hmid0 hLal hgle hgle0
    clear hcell
    go_wp2
    clear c2
    go_loopw [7,10,11] (fun nv lv kv W=>∃ k:Nat,k ≤ P.length∧kv = .int .i64 (k:Int)∧nv = .int .i64 (midN now A (P.take k):Int)∧RPeer.Own W w1.heap.size lv (liveP now (P.take k))∧Below w1.heap.size w1 W) (fun _ _ kv _=>P.length - (intOf kv).toNat)
    case atStart=>exact ⟨0,Nat.zero_le _,rfl,rfl,RecT.Own.nil _ _,Below.refl _ _⟩
    case round=>
     rename World=>w2
     obtain ⟨k,hk,rfl,rfl,hol,hb2⟩:=hrel
     have c2:=Grew.cell hb2 HC2.out
     have hcell:=Grew.cell hb2 HCE.out
     obtain ⟨la,lc,hv⟩:=hol.row.len
     subst hv
     by_cases hltk:k < P.length
     ·have hki:(k:Int) < (P.length:Int):=by omega
      obtain ⟨p,hp⟩:∃ p,P[k]? = some p:=⟨_,List.getElem?_eq_getElem hltk⟩
      obtain ⟨pb,poff,c',hv,hbl,hat⟩:=HROW.out.row.at_ (by omega)
      obtain ⟨rfl,rfl⟩:aP = some ⟨pb,poff,none⟩∧kP = c':=by cases hv;exact ⟨rfl,rfl⟩
      have hA2:=(hat k p hp).of_new hb2
      have htl:w2.cell? ⟨pb,poff + k * 3 + 1,none⟩ = some (.int .i64 p.till):=(peer_cells hA2).2.1
      have HTK2:=Lib.hid (take_snoc_at hp)
      have HLS:=Lib.hid (liveP_snoc now (P.take k) p)
      have HMS:=Lib.hid (midN_snoc now A (P.take k) p)
      have hmb:midN now A (P.take k) ≤ 64000 + 64:=by
       have h1:=HGLE.out
       have h2:=liveP_len now P
       unfold midN at h1 ⊢
       have h3:(P.take k).length ≤ 64:=by rw [List.length_take];omega
       omega
      have hll:(liveP now (P.take k)).length ≤ 64:=by have:=liveP_len now (P.take k);rw [List.length_take] at this;omega
      have HA2:=Lib.hid hA2
      have HOL:=Lib.hid hol
      have HB2:=Lib.hid hb2
      obtain ⟨M,hM⟩:∃ M,midN now A (P.take k) = M:=⟨_,rfl⟩
      obtain ⟨LL,hLL⟩:∃ LL,liveP now (P.take k) = LL:=⟨_,rfl⟩
      rw [hM] at HMS hmb ⊢
      rw [hLL] at HLS HOL hll ⊢
      have HLLN:=Lib.hid hll
      clear hv hbl hat hp hA2 hol hb2 hM hLL hll
      by_cases hg:p.till ≤ now
      ·have hms:=HMS.out
       have hls:=HLS.out
       rw [if_pos hg] at hms hls
       have HM2:=Lib.hid hms
       have HL2:=Lib.hid hls
       clear hms hls
       go_wp2
       go_roundw
       case rel=>exact ⟨k + 1,by omega,by go_num,by rw [HTK2.out,HM2.out];go_num,by rw [HTK2.out,HL2.out];exact HOL.out,HB2.out⟩
       case measure=>simp [intOf];omega
      ·have hms:=HMS.out
       have hls:=HLS.out
       rw [if_neg hg] at hms hls
       have HM2:=Lib.hid hms
       have HL2:=Lib.hid hls
       clear hms hls
       go_wp2_with (first
        | ((with_reducible refine wpList_plain (o:=⟨some 65,Op.load _ _,_,_,_,_⟩) rfl fun K hK=>?_);(refine HA2.out.wp rfl rfl (hK _ _ ?_)))
        | ((with_reducible refine wpList_plain (o:=⟨some 66,Op.buildSlice _ _ _,_,_,_,_⟩) rfl fun K hK=>?_);(refine RPeer.wp_build1 Tryz.underlying71 (.tmp 65) (RPeer_ok p) rfl rfl fun w9 ho9 hb9 hs9=>hK _ _ ?_);have HO9:=Lib.hid ho9.row;have HB9:=Lib.hid hb9;clear ho9 hb9 hs9)
        | ((with_reducible refine wpList_plain (o:=⟨some 67,Op.call _,_,_,_,_⟩) rfl fun K hK=>?_);(refine (HOL.out.of_new HB9.out).app Tryz.underlying71 (.tmp 54) (.tmp 66) rfl rfl rfl HO9.out (by have:=HLLN.out;simp;omega) (by have:=HB2.out.size;have:=HB9.out.size;omega) fun v10 w10 ho10 hg10 hu10=>hK _ _ ?_);have HO10:=Lib.hid ho10;have HB10:=Lib.hid ((below_next HB2.out HB9.out).grown hg10 (by have:=HB2.out.size;have:=HB9.out.size;omega) (fun k e=>(HOL.out.lt k e).1));clear ho10 hg10 hu10))
       go_roundw
       case rel=>exact ⟨k + 1,by omega,by go_num,by rw [HTK2.out,HM2.out],by rw [HTK2.out,HL2.out];exact HO10.out,HB10.out⟩
       case measure=>simp [intOf];omega
     ·obtain rfl:k = P.length:=by omega
      have hki:¬ (P.length:Int) < (P.length:Int):=by omega
      rw [List.take_length] at hol ⊢
      have hmg:midN now A P = goneN now (T.take (i + 1)):=by rw [HTK.out];exact (midT_end (now:=now) (A:=A) (d:=d) (P:=P) (B:=[])).2
      have hls:=live_step (now:=now) (A:=A) (d:=d) (P:=P)
      rw [← HTK.out] at hls
      have HMG:=Lib.hid hmg
      have hllb:(liveP now P).length ≤ 64:=by have:=liveP_len now P;omega
      obtain ⟨LL,hLL⟩:∃ LL,liveP now P = LL:=⟨_,rfl⟩
      rw [hLL] at hol hls hllb ⊢
      have HOL:=Lib.hid hol
      have HB2:=Lib.hid hb2
      have HLS:=Lib.hid hls
      have HBA:=Lib.hid (below_next HB.out hb2)
      have HOWN2:=Lib.hid (HOWN.out.of_new hb2)
      have HDG2:=Lib.hid (HDG.out.of_new hb2)
      clear hLL hol hls hb2 hmg
      by_cases h0:LL = []
      ·have hl0:¬ (0:Int) < (LL.length:Int):=by rw [h0];decide
       have hls:=HLS.out
       rw [if_pos h0] at hls
       have HL2:=Lib.hid hls
       clear hls h0
       go_wp2
       go_roundw
       case rel=>exact ⟨i + 1,La,by omega,by go_num,by rw [HMG.out],HOWN2.out,by rw [HL2.out];exact HKEYS.out,by rw [HL2.out];exact fun j x y hx hy=>(HROWS.out j x y hx hy).of_new HB2.out,HBA.out⟩
       case measure=>simp [intOf];omega
      ·have hl0:(0:Int) < (LL.length:Int):=by have:=List.length_pos_iff.2 h0;omega
       have hls:=HLS.out
       rw [if_neg h0] at hls
       have HL2:=Lib.hid hls
       clear hls h0
       go_wp2_with (first
        | ((with_reducible refine wpList_plain (o:=⟨some 79,Op.load _ _,_,_,_,_⟩) rfl fun K hK=>?_);(refine wp_load_at (ty:=31) (x:=.tmp 78) rfl rfl HDG2.out (hK _ _ ?_)))
        | ((with_reducible refine wpList_plain (o:=⟨some 81,Op.build _ _,_,_,_,_⟩) rfl fun K hK=>?_);(refine wp_build_of2 d (.slice la LL.length lc) rfl rfl rfl H32.out rfl (hK _ _ ?_)))
        | ((with_reducible refine wpList_plain (o:=⟨some 82,Op.buildSlice _ _ _,_,_,_,_⟩) rfl fun K hK=>?_);(refine ROf.wp_build1 Tryz.underlying142 (.tmp 81) (x:=(d,.slice la LL.length lc)) ⟨H32.out,rfl⟩ rfl rfl fun w9 ho9 hb9 hs9=>hK _ _ ?_);have HO9:=Lib.hid ho9.row;have HB9:=Lib.hid hb9;clear ho9 hb9 hs9)
        | ((with_reducible refine wpList_plain (o:=⟨some 83,Op.call _,_,_,_,_⟩) rfl fun K hK=>?_);(refine (HOWN2.out.of_new HB9.out).app Tryz.underlying142 (.tmp 71) (.tmp 82) rfl rfl rfl HO9.out (by have:=HLAL.out;simp;omega) (by have:=HBA.out.size;have:=HB9.out.size;omega) fun v10 w10 ho10 hg10 hu10=>hK _ _ ?_);have HO10:=Lib.hid ho10;have HG10:=Lib.hid hg10;have HB10:=Lib.hid ((below_next HBA.out HB9.out).grown hg10 (by have:=HBA.out.size;have:=HB9.out.size;omega) (fun k e=>(HOWN2.out.lt k e).1));clear ho10 hg10 hu10))
       have hrows':∀ (j:Nat) (x:List UInt8 × Value) (y:List UInt8 × List PeerL),(La ++ [(d,Value.slice la LL.length lc)])[j]? = some x→(liveT now A ++ [(d,LL)])[j]? = some y→RPeer.Own w10 B x.2 y.2:=fun j x y hx hy=>by
        have hkl:La.length = (liveT now A).length:=by have:=congrArg List.length HKEYS.out;simpa using this
        have hkeep:∀ {u:Value} {q:List PeerL},RPeer.Own w2 B u q→RPeer.Own w10 B u q:=fun {u q} h=>(h.of_new HB9.out).kept fun k e=>HG10.out.block k ((h.of_new HB9.out).lt k e).2 fun e2=>by
         obtain ⟨cur1,q1⟩:=h.block e
         obtain ⟨cur2,q2⟩:=HOWN2.out.block e2.symm
         rw [q1] at q2;cases q2
        by_cases hj:j < La.length
        ·rw [List.getElem?_append_left hj] at hx
         rw [List.getElem?_append_left (by omega)] at hy
         exact hkeep ((HROWS.out j x y hx hy).of_new HB2.out)
        ·rw [List.getElem?_append_right (by omega)] at hx hy
         rw [← hkl] at hy
         have hj0:j - La.length = 0:=by
          rcases Nat.eq_zero_or_pos (j - La.length) with h | h
          ·exact h
          ·rw [List.getElem?_eq_none (by simp;omega)] at hx;cases hx
         rw [hj0] at hx hy
         cases hx;cases hy
         exact hkeep (HOL.out.mono (by have h1:=HR.out.base;have h2:=HR.out.lt;have h3:=HB.out.size;omega))
       have HROWS':=Lib.hid hrows'
       clear hrows'
       go_roundw
       case rel=>exact ⟨i + 1,La ++ [(d,Value.slice la LL.length lc)],by omega,by go_num,by rw [HMG.out],HO10.out,by rw [HL2.out,List.map_append,List.map_append,HKEYS.out];rfl,by rw [HL2.out];exact HROWS'.out,HB10.out⟩
       case measure=>simp [intOf];omega
   ·obtain rfl:i = n:=by omega
    have hii:¬ (i:Int) < (i:Int):=by omega
    have he:T.take i = T:=List.take_of_length_le (by rw [HN.out];exact Nat.le_refl _)
    rw [he] at hkeys hrows ⊢
    have f2:=hRr.free 2
    have HST:=Lib.hid (RTabP.put HR.out hb hown hkeys hrows rfl)
    have HXX:=HX
    obtain ⟨G,hG⟩:∃ G,goneN now T = G:=⟨_,rfl⟩
    rw [hG]
    have HGG:=Lib.hid hG
    clear he hkeys hrows hown hb hRr hG
    go_wp2
    go_ret2
    exact ⟨_,_,(by rw [HGG.out];rfl),HST.out.1,HST.out.2⟩
def HasV (p:Bool × Bool × Bool × Int × Bool × Bool × Bool):Value:=.tuple #[.bool p.1,.bool p.2.1,.bool p.2.2.1,.int .i64 p.2.2.2.1,.bool p.2.2.2.2.1,.bool p.2.2.2.2.2.1,.bool p.2.2.2.2.2.2]
set_option maxHeartbeats 3200000 in
theorem RHas_any (k:Int) (w:World):Calls Tryz.prog 44 #[.int .i64 k] w fun e w'=>e = .returned (HasV (rhasL k))∧w = w':=by
 rcases (show k = 1∨k = 2∨k = 3∨k = 4∨k = 5∨k = 6∨k = 7∨k = 8∨k = 10∨(k ≠ 1∧k ≠ 2∧k ≠ 3∧k ≠ 4∧k ≠ 5∧k ≠ 6∧k ≠ 7∧k ≠ 8∧k ≠ 10) by omega) with h | h | h | h | h | h | h | h | h | h
 case inr.inr.inr.inr.inr.inr.inr.inr.inr=>
  obtain ⟨h1,h2,h3,h4,h5,h6,h7,h8,h10⟩:=h
  rw [show rhasL k = (true,false,false,0,false,false,false) by simp [rhasL,h1,h2,h3,h4,h5,h6,h7,h8,h10]]
  have t1:(k == 1) = false:=beq_eq_false_iff_ne.2 h1
  have t2:(k == 2) = false:=beq_eq_false_iff_ne.2 h2
  have t3:(k == 3) = false:=beq_eq_false_iff_ne.2 h3
  have t4:(k == 4) = false:=beq_eq_false_iff_ne.2 h4
  have t5:(k == 5) = false:=beq_eq_false_iff_ne.2 h5
  have t6:(k == 6) = false:=beq_eq_false_iff_ne.2 h6
  have t7:(k == 7) = false:=beq_eq_false_iff_ne.2 h7
  have t8:(k == 8) = false:=beq_eq_false_iff_ne.2 h8
  have t10:(k == 10) = false:=beq_eq_false_iff_ne.2 h10
  clear h1 h2 h3 h4 h5 h6 h7 h8 h10
  go_enter Tryz.func44,Tryz.ntmps44
  go_wp2
  refine bodyPost_ret (v:=HasV (true,false,false,0,false,false,false)) (by simp [results,Tryz.results44,go_sem];rfl) rfl ⟨rfl,rfl⟩
 all_goals
  subst h
  go_enter Tryz.func44,Tryz.ntmps44
  go_wp2
  refine bodyPost_ret (v:=HasV (rhasL _)) (by simp [results,Tryz.results44,go_sem];rfl) rfl ⟨rfl,rfl⟩
set_option maxHeartbeats 1600000 in
theorem RMember_any (x:MemL) (w:World) :
  Calls Tryz.prog 88 #[.agg #[.int .i64 x.id,.int .i64 x.inc,.int .i64 x.state,.int .i64 x.since]] w fun e w'=>e = .returned (.bool (memB x))∧Below w.heap.size w w':=by
 have i1:=fun w'=>IsId_any x.id w'
 have he:memB x = (idB x.id && withinB x.inc 0 1073741824 && withinB x.state 1 3):=rfl
 rw [he]
 clear he
 have hb:Below w.heap.size w (w.alloc (.cells #[.int .i64 x.id,.int .i64 x.inc,.int .i64 x.state,.int .i64 x.since] 113)):=(Below.refl _ _).alloc (Nat.le_refl _) _
 obtain ⟨xi,xj,xs,xt⟩:=x
 dsimp only at *
 generalize idB xi = A at *
 cases A
 ·go_enter Tryz.func88,Tryz.ntmps88
  go_wp2_with (first | (go_at_call 87;refine (i1 _).mono ?_;rintro e w2 ⟨rfl,rfl⟩))
  go_ret
  exact ⟨rfl,hb⟩
 unfold withinB
 by_cases h1:0 ≤ xj
 case neg=>
  go_enter Tryz.func88,Tryz.ntmps88
  go_wp2_with (first | (go_at_call 87;refine (i1 _).mono ?_;rintro e w2 ⟨rfl,rfl⟩))
  go_ret
  exact ⟨ret_bool (by simp;omega),hb⟩
 by_cases h2:xj ≤ 1073741824
 case neg=>
  go_enter Tryz.func88,Tryz.ntmps88
  go_wp2_with (first | (go_at_call 87;refine (i1 _).mono ?_;rintro e w2 ⟨rfl,rfl⟩))
  go_ret
  exact ⟨ret_bool (by simp;omega),hb⟩
 by_cases h3:1 ≤ xs
 case neg=>
  go_enter Tryz.func88,Tryz.ntmps88
  go_wp2_with (first | (go_at_call 87;refine (i1 _).mono ?_;rintro e w2 ⟨rfl,rfl⟩))
  go_ret
  exact ⟨ret_bool (by simp;omega),hb⟩
 ·go_enter Tryz.func88,Tryz.ntmps88
  go_wp2_with (first | (go_at_call 87;refine (i1 _).mono ?_;rintro e w2 ⟨rfl,rfl⟩))
  go_ret
  exact ⟨ret_bool (by simp [h1,h2,h3]),hb⟩
set_option maxHeartbeats 6400000 in
theorem WRRight_any (m:MsgL) (s:MsgS) (w:World) (hm:MsgR w m s) :
  Calls Tryz.prog 43 #[MsgV m s] w fun e w'=>e = .returned (.bool (rrightB m))∧Below w.heap.size w w':=by
 obtain ⟨W,hW,ho,hb⟩:=msg_boxed w (s:=s) hm.hash
 have hmW:=hm.of_new hb
 have hi:=hmW.ids
 have hme:=hmW.members
 obtain ⟨ai,ci,hvi⟩:=hi.len
 obtain ⟨ab,cb,hvb⟩:=hm.bytes.len
 obtain ⟨ap,cp,hvp⟩:=hm.proof.len
 obtain ⟨am,cm,hvm⟩:=hme.len
 have li:=hi.le
 have lm:=hme.le
 have lb:=hm.bytes.le
 have e0:=ho.kind
 have eh:=ho.hash
 have e3:=ho.piece
 have e4:=ho.ids
 have e5:=ho.bytes
 have e6:=ho.proof
 have e7:=ho.members
 have e8:=ho.seed
 have hls:=ho.lt
 rw [hvi] at e4 hi
 rw [hvb] at e5
 rw [hvp] at e6
 rw [hvm] at e7 hme
 have h32:=hm.hash
 have hgd:=guard_dig
 have heq:=run_neq_dig m.hash zero32 h32 rfl
 rw [show (List.map B8 zero32).toArray = #[.int .u8 0,.int .u8 0,.int .u8 0,.int .u8 0,.int .u8 0,.int .u8 0,.int .u8 0,.int .u8 0,.int .u8 0,.int .u8 0,.int .u8 0,.int .u8 0,.int .u8 0,.int .u8 0,.int .u8 0,.int .u8 0,.int .u8 0,.int .u8 0,.int .u8 0,.int .u8 0,.int .u8 0,.int .u8 0,.int .u8 0,.int .u8 0,.int .u8 0,.int .u8 0,.int .u8 0,.int .u8 0,.int .u8 0,.int .u8 0,.int .u8 0,.int .u8 0] from rfl] at heq
 have hR:=RHas_any m.kind W
 have hrr:rrightB m = (!rTest1 m && !rTest2 m && !rTest3 m && m.ids.all idB && m.members.all memB0):=rfl
 unfold rTest1 rTest2 rTest3 at hrr
 have HW:=Lib.hid hW
 have HI:=Lib.hid hi
 have HM:=Lib.hid hme
 have HO:=Lib.hid ho
 obtain ⟨V,hV⟩:∃ V,MsgV m s = V:=⟨_,rfl⟩
 rw [show MsgV m s = .agg (msgCells m s).toArray from rfl] at hV ⊢
 obtain ⟨F,hF⟩:∃ F,rhasL m.kind = F:=⟨_,rfl⟩
 rw [hF] at hR hrr
 obtain ⟨R,hRe⟩:∃ R,rrightB m = R:=⟨_,rfl⟩
 rw [hRe] at hrr ⊢
 have HF:=Lib.hid hF
 generalize hz:decide (m.hash = zero32) = z at *
 generalize m.kind = k at *
 generalize m.hash = hsh at *
 generalize m.piece = p at *
 generalize m.seed = sd at *
 generalize hnb:m.bytes.length = nb at *
 generalize hnp:m.proof.length = np at *
 generalize hni:m.ids.length = ni at *
 generalize hnm:m.members.length = nm at *
 have HNI:=Lib.hid hni
 have HNM:=Lib.hid hnm
 have HRR:=Lib.hid hrr
 clear hW hm hmW hvi hvb hvp hvm ho hi hme hV hF hRe hz hnb hnp hni hnm hrr
 go_enter Tryz.func43,Tryz.ntmps43
 go_upto_region 1 with (fail)
 rw [HW.out]
 by_cases c1:k < 1
 ·go_wp2
  go_ret
  exact ⟨ret_bool (by rw [HRR.out];simp [c1]),hb⟩
 by_cases c2:11 < k
 ·go_wp2
  go_ret
  exact ⟨ret_bool (by rw [HRR.out];simp [c2]),hb⟩
 by_cases c3:p < 0
 ·go_wp2
  go_ret
  exact ⟨ret_bool (by rw [HRR.out];simp [c3]),hb⟩
 by_cases c4:1023 < p
 ·go_wp2
  go_ret
  exact ⟨ret_bool (by rw [HRR.out];simp [c4]),hb⟩
 by_cases c5:(64:Int) < ni
 ·go_wp2
  go_ret
  exact ⟨ret_bool (by rw [HRR.out];simp [c5]),hb⟩
 by_cases c6:(10:Int) < np
 ·go_wp2
  go_ret
  exact ⟨ret_bool (by rw [HRR.out];simp [c6]),hb⟩
 by_cases c7:(65:Int) < nm
 ·go_wp2
  go_ret
  exact ⟨ret_bool (by rw [HRR.out];simp [c7]),hb⟩
 go_upto_region 4 with (first | (go_at_call 44;refine hR.mono ?_;rintro e w2 ⟨rfl,rfl⟩;unfold HasV))
 have hdec:R = (!((!F.1 && !z) || (!F.2.1 && !decide (p = 0)) || (!F.2.2.1 && decide (0 < (ni:Int))) || (!F.2.2.2.2.1 && decide (0 < (np:Int))) || (!F.2.2.2.2.2.2 && sd)) && (!(decide (F.2.2.2.1 < (nb:Int)) || (decide (0 < F.2.2.2.1) && decide ((nb:Int) = 0)) || (F.2.2.2.2.2.1 != decide (0 < (nm:Int)))) && m.ids.all idB && m.members.all memB0)):=by
  rw [HRR.out];simp [show ¬ k < 1 by omega,show ¬ 11 < k by omega,show ¬ p < 0 by omega,show ¬ 1023 < p by omega,show ¬ (64:Int) < ni by omega,show ¬ (10:Int) < np by omega,show ¬ (65:Int) < nm by omega,Bool.and_assoc]
 have HRR2:=Lib.hid hdec
 clear hdec HRR hR
 have hF:=HF.out
 have hF8:F = (true,false,false,128,false,false,false)∨F = (true,true,false,0,false,false,false)∨F = (true,true,false,16384,true,false,false)∨F = (true,false,false,0,false,false,true)∨F = (true,false,true,0,false,false,false) ∨
   F = (false,false,false,0,false,true,false)∨F = (true,false,false,4096,false,false,false)∨F = (true,false,false,0,false,false,false):=by
  rw [← hF]
  rcases kinds k with h | h | h | h | h | h | h | h | h | h | h | h
  case inr.inr.inr.inr.inr.inr.inr.inr.inr.inr.inr=>omega
  all_goals (subst h;simp [rhasL])
 have HF8:=Lib.hid hF8
 clear hF hF8 HF
 go_cut [105] (fun v W'=>W' = W∧v = .bool ((!F.1 && !z) || (!F.2.1 && !decide (p = 0)) || (!F.2.2.1 && decide (0 < (ni:Int))) || (!F.2.2.2.2.1 && decide (0 < (np:Int))) || (!F.2.2.2.2.2.2 && sd)))
 case first=>
  clear HRR2
  rcases HF8.out with h | h | h | h | h | h | h | h
  all_goals
   as_aux_lemma=>
    subst h
    dsimp only
    go_wp2_with (first
     | ((with_reducible refine wpList_met (o:=⟨some 65,_,_,_,_,_⟩) ?_ ?_);rfl;intro K hK;refine wp_load_at (ty:=31) (x:=.tmp 64) rfl rfl eh (hK _ _ ?_)))
    all_goals
     go_meet
     refine ⟨rfl,?_⟩
     simp [Nat.pos_iff_ne_zero, *]
 case rest=>
  obtain ⟨rfl,rfl⟩:=hcut
  generalize hT:((!F.1 && !z) || (!F.2.1 && !decide (p = 0)) || (!F.2.2.1 && decide (0 < (ni:Int))) || (!F.2.2.2.2.1 && decide (0 < (np:Int))) || (!F.2.2.2.2.2.2 && sd)) = T at *
  cases T with
  | true=>
   clear hT
   go_wp2
   go_ret
   exact ⟨ret_bool (by rw [HRR2.out];rfl),hb⟩
  | false=>
  clear hT
  go_upto_region 6 with (fail)
  go_cut [128] (fun v W'=>W' = wc∧v = .bool (decide (F.2.2.2.1 < (nb:Int)) || (decide (0 < F.2.2.2.1) && decide ((nb:Int) = 0)) || (F.2.2.2.2.2.1 != decide (0 < (nm:Int)))))
  case first=>
   clear HRR2
   rcases HF8.out with h | h | h | h | h | h | h | h
   all_goals
    as_aux_lemma=>
     subst h
     dsimp only
     go_wp2
     all_goals
      go_meet
      refine ⟨rfl,?_⟩
      simp [Nat.pos_iff_ne_zero,eqz, *]
  case rest=>as_aux_lemma=>
   obtain ⟨rfl,rfl⟩:=hcut
   generalize hT:(decide (F.2.2.2.1 < (nb:Int)) || (decide (0 < F.2.2.2.1) && decide ((nb:Int) = 0)) || (F.2.2.2.2.2.1 != decide (0 < (nm:Int)))) = T at *
   cases T with
   | true=>
    clear hT
    go_wp2
    go_ret
    exact ⟨ret_bool (by rw [HRR2.out];rfl),hb⟩
   | false=>
   clear hT HF8 e0 eh e3 e5 e6 e8 heq
   have HRR3:=Lib.hid (show R = (m.ids.all idB && m.members.all memB0) by rw [HRR2.out];simp)
   clear HRR2
   go_wp2
   go_loop [10,11] (fun iv _=>∃ k:Nat,k ≤ ni∧iv = .int .i64 k∧m.ids.all idB = (m.ids.drop k).all idB) (fun iv _=>ni - (intOf iv).toNat)
   case atStart=>exact ⟨0,by omega,rfl,rfl⟩
   case round=>
    obtain ⟨j,hj,rfl,hmm⟩:=hrel
    by_cases hlt:j < ni
    ·have hlt2:j < m.ids.length:=by have:=HNI.out;omega
     obtain ⟨b,off,c',hv,hbl,hc⟩:=HI.out.cell (by omega)
     obtain ⟨rfl,rfl⟩:ai = some ⟨b,off,none⟩∧ci = c':=by cases hv;exact ⟨rfl,rfl⟩
     replace hc:=hc j hlt2
     rw [drop_int hlt2,List.all_cons] at hmm
     generalize m.ids.getD j 0 = y at *
     have hO:=fun w'=>IsId_any y w'
     generalize idB y = B at *
     have HM2:=Lib.hid hmm
     clear hv hmm hlt2
     cases B with
     | false=>
      go_wp2_with (first | (go_at_call 87;refine (hO _).mono ?_;rintro e w2 ⟨rfl,rfl⟩))
      go_ret
      exact ⟨ret_bool (by rw [HRR3.out,HM2.out];rfl),hb⟩
     | true=>
      go_wp2_with (first | (go_at_call 87;refine (hO _).mono ?_;rintro e w2 ⟨rfl,rfl⟩))
      go_round
      case rel=>exact ⟨j + 1,by omega,by go_num,by rw [HM2.out];rfl⟩
      case measure=>simp [intOf];omega
    ·rw [List.drop_of_length_le (by have:=HNI.out;omega)] at hmm
     have HRR4:=Lib.hid (show R = m.members.all memB0 by rw [HRR3.out,hmm];rfl)
     clear hmm HRR3
     go_wp2
     go_loopw [12,13] (fun iv _ W'=>∃ k:Nat,k ≤ nm∧iv = .int .i64 k∧m.members.all memB0 = (m.members.drop k).all memB0∧Below w.heap.size w W'∧Below wc.heap.size wc W') (fun iv _ _=>nm - (intOf iv).toNat)
     case atStart=>exact ⟨0,by omega,rfl,rfl,hb,Below.refl _ _⟩
     case round=>
      obtain ⟨i,hi,rfl,hmm,hbw,hbc⟩:=hrel
      have e7':=(hbc.cell (p:=⟨w.heap.size,37,none⟩) hls).trans e7
      by_cases hlt:i < nm
      ·have hlt2:i < m.members.length:=by have:=HNM.out;omega
       obtain ⟨b,off,c',hv,hbl,hc⟩:=HM.out.cell (by omega)
       obtain ⟨rfl,rfl⟩:am = some ⟨b,off,none⟩∧cm = c':=by cases hv;exact ⟨rfl,rfl⟩
       replace hc:=(hc i hlt2).of_new hbc
       rw [drop_mem hlt2,List.all_cons] at hmm
       generalize m.members.getD i mem0 = y at *
       have hO:=fun w'=>RMember_any y w'
       have hmb:memB0 y = (memB y && decide (y.since = 0)):=rfl
       rw [hmb] at hmm
       generalize memB y = B at *
       obtain ⟨d0,d1,d2,d3⟩:=hc
       obtain ⟨y0,y1,y2,y3⟩:=y
       dsimp only at *
       have HM2:=Lib.hid hmm
       clear hv hmm hlt2 hmb
       cases B with
       | false=>
        go_wp2_with (first | (go_at_call 88;refine (hO _).mono ?_;rintro e w2 ⟨rfl,hb2⟩))
        go_ret
        exact ⟨ret_bool (by rw [HRR4.out,HM2.out];rfl),below_next hbw hb2⟩
       | true=>
        have d3':=fun w' (h:Below wr.heap.size wr w')=>(Grew.cell h d3)
        have e7'':=fun w' (h:Below wr.heap.size wr w')=>(Grew.cell h e7')
        by_cases hy3:y3 = 0
        ·have t:(y3 != 0) = false:=by simp [hy3]
         have HY:=Lib.hid hy3
         clear hy3
         go_wp2_with (first | (go_at_call 88;refine (hO _).mono ?_;rintro e w2 ⟨rfl,hb2⟩;have f3:=d3' _ hb2;have f7:=e7'' _ hb2))
         go_roundw
         case rel=>exact ⟨i + 1,by omega,by go_num,by rw [HM2.out,HY.out];rfl,below_next hbw hb2,below_next hbc hb2⟩
         case measure=>simp [intOf];omega
        ·have t:(y3 != 0) = true:=by simp [hy3]
         have HY:=Lib.hid hy3
         clear hy3
         go_wp2_with (first | (go_at_call 88;refine (hO _).mono ?_;rintro e w2 ⟨rfl,hb2⟩;have f3:=d3' _ hb2;have f7:=e7'' _ hb2))
         go_ret
         exact ⟨ret_bool (by rw [HRR4.out,HM2.out,decide_eq_false HY.out];rfl),below_next hbw hb2⟩
      ·rw [List.drop_of_length_le (by have:=HNM.out;omega)] at hmm
       have HN:=Lib.hid hmm
       clear hmm
       go_wp2
       go_ret
       exact ⟨ret_bool (by rw [HRR4.out,HN.out];rfl),hbw⟩
end Go.Proofs.YtnohglkilpnjhaaGreatDoor
