/- Lemmas that the statement of this claim leans on; their own comments are taken out, for the size of the claim. No condition beyond what each lemma states. -/
import Derived.Test.YtnohglkilpnjhaaGreatDoorSc5
import Derived.Laws.BitsAllLaws
import Derived.Laws.Bits64
import Derived.WalkKit
import Derived.Test.YtnohglkilpnjhaaGreatDoorProg
set_option linter.unusedVariables false
set_option linter.unusedSimpArgs false
set_option linter.unusedSectionVars false
namespace Go.Proofs.YtnohglkilpnjhaaGreatDoor
open Go.RowKit
set_option maxRecDepth 100000
set_option maxHeartbeats 3200000 in
theorem MinP_any (v:Value) (x:PeerL) (l:List PeerL) (w:World) (hl:RPeer.Row w v (x :: l)) :
  Calls Tryz.prog 134 #[v,.func (.func 135) #[] #[]] w fun e w'=>e = .returned (RPeer.V (pickL goesP l x))∧Below w.heap.size w w':=by
 obtain ⟨pb,poff,pc,rfl,hpl,hat⟩:=hl.at_ (by simp)
 have hle:=hl.le
 simp only [List.length_cons] at hle ⊢
 have h0:=hat 0 x rfl
 rw [Nat.zero_mul,Nat.add_zero] at h0
 have H0:=Lib.hid h0
 have HAT:=Lib.hid (fun k y (h:l[k]? = some y)=>hat (k + 1) y (by simpa using h))
 have hn:¬ ((l.length + 1:Nat):Int) < 1:=by omega
 have hn1:(0:Int) < ((l.length + 1:Nat):Int):=by omega
 obtain ⟨N,hN⟩:∃ N,l.length + 1 = N:=⟨_,rfl⟩
 rw [hN] at hle hn hn1 ⊢
 have HN:=Lib.hid hN
 clear hl hat h0 hN
 go_enter Tryz.func134,Tryz.ntmps134
 go_upto_region 5 with (first
  | ((with_reducible refine wpList_plain (o:=⟨some 4,Op.alloc _,_,_,_,_⟩) rfl fun K hK=>?_);(refine RPeer.wp_alloc rfl fun w1 ho1 hb1 hs1=>hK _ _ ?_);have HO1:=Lib.hid ho1;have HB1:=Lib.hid hb1;have HS1:=Lib.hid hs1;have HA1:=Lib.hid (H0.out.of_new hb1);clear ho1 hb1 hs1)
  | ((with_reducible refine wpList_plain (o:=⟨some 13,Op.load _ _,_,_,_,_⟩) rfl fun K hK=>?_);(refine HA1.out.wp rfl rfl (hK _ _ ?_)))
  | ((with_reducible refine wpList_plain (o:=⟨some 5,Op.alloc _,_,_,_,_⟩) rfl fun K hK=>?_);(refine RPeer.wp_alloc rfl fun w2 ho2 hb2 hs2=>hK _ _ ?_);have HO2:=Lib.hid ho2;have HB2:=Lib.hid hb2;clear ho2 hb2 hs2)
  | ((with_reducible refine wpList_plain (o:=⟨none,Op.store _ (.tmp 5) (.tmp 13),_,_,_,_⟩) rfl fun K hK=>?_);(refine HO2.out.store (.tmp 5) (.tmp 13) rfl rfl rfl (RPeer_ok x) fun w3 ho3 hg3 hs3=>hK _ _ ?_);have hb3:=HB2.out.grown hg3 (by have:=HB2.out.size;omega) (fun k e=>by cases e;exact Nat.le_refl _);have HO3:=Lib.hid ho3;have HB3:=Lib.hid hb3;have HR3:=Lib.hid (HO1.out.of_new hb3);clear ho3 hg3 hs3 hb3))
 have hb3:=below_next HB1.out HB3.out
 have hr3:=HR3.out
 have ho3:=HO3.out
 clear hn
 go_loopw [6] (fun iv W=>∃ k m,k ≤ l.length∧iv = .int .i64 ((k + 1:Nat):Int)∧pickL goesP l x = pickL goesP (l.drop k) m∧RPeer.O W w1.heap.size m∧RPeer.O W w.heap.size PeerL.zero∧Below w.heap.size w W) (fun iv _=>N - (intOf iv).toNat)
 case atStart=>exact ⟨0,x,Nat.zero_le _,rfl,rfl,ho3,hr3,hb3⟩
 case round=>
  clear ho3 hr3 hb3
  obtain ⟨k,m,hk,rfl,hp,ho,hz,hb⟩:=hrel
  have HO:=Lib.hid ho
  have HZ:=Lib.hid hz
  have HB:=Lib.hid hb
  have HK:=Lib.hid hk
  by_cases hlt:k < l.length
  ·obtain ⟨y,hy⟩:∃ y,l[k]? = some y:=⟨_,List.getElem?_eq_getElem hlt⟩
   have hdr:l.drop k = y :: l.drop (k + 1):=by rw [List.drop_eq_getElem_cons hlt];rw [List.getElem?_eq_getElem hlt] at hy;cases hy;rfl
   have hp2:pickL goesP l x = pickL goesP (l.drop (k + 1)) (if goesP y m then y else m):=by rw [hp,hdr];rfl
   have hA:=(HAT.out k y hy).of_new hb
   rw [← firstC_goes] at hp2
   have hC:=fun w'=>FirstCmp_any y m w'
   generalize firstC y m = c at *
   obtain ⟨jj,hjj⟩:∃ jj,k + 1 = jj:=⟨_,rfl⟩
   rw [hjj] at hp2 hA ⊢
   have hKN:(jj:Int) < (N:Int):=by have:=HN.out;omega
   have hKl:jj ≤ l.length:=by omega
   have HK2:=Lib.hid hjj
   have HP:=Lib.hid hp2
   have HA:=Lib.hid hA
   have HC:=Lib.hid hC
   clear hp hdr hy hA hC hp2 ho hz hb hjj hk
   by_cases hc:c < 0
   ·have hd:decide (c < 0) = true:=decide_eq_true hc
    go_upto_region 7 with (fail)
    refine wp_region_grew (by kernel_rfl) (by kernel_rfl) ?_
    repeat (first
     | (go_big_quiet_want;(refine RecT.At.quiet (R:=RPeer) (p:=.tmp 5) (fun w' hw'=>(HO.out.of_new hw').at_) rfl rfl ?_);go_simp;go_big_quiet_on)
     | (go_big_quiet_want;(refine RecT.At.quiet (R:=RPeer) (p:=.tmp 23) (fun w' hw'=>HA.out.of_new hw') rfl rfl ?_);go_simp;go_big_quiet_on)
     | (go_big_quiet_want;(with_reducible apply quiet_load_at (ty:=31) (x:=.tmp _));rfl;rfl;assumption;go_simp;go_big_quiet_on)
     | (go_big_quiet_want;apply quiet_val;(intro w' hw';go_simp;first | done | rfl);go_simp;go_big_quiet_on)
     | (go_big_quiet_want;apply quiet_call (f:=135);(intro w' hw';go_simp;first | done | rfl);(intro w' hw';exact Grew.call hw' (HC.out w'));go_simp;go_big_quiet_on)
     | (go_big_quiet_skip))
    refine wpQuiet_nil ?_
    intro w5 hw5
    have HO5:=Lib.hid (HO.out.of_new hw5)
    have HZ5:=Lib.hid (HZ.out.of_new hw5)
    have HB5:=Lib.hid (below_next HB.out hw5)
    have HA5:=Lib.hid (HA.out.of_new hw5)
    clear hw5
    go_wp2_with (first
     | ((with_reducible refine wpList_plain (o:=⟨some 31,Op.load _ _,_,_,_,_⟩) rfl fun K hK=>?_);(refine HA5.out.wp rfl rfl (hK _ _ ?_)))
     | ((with_reducible refine wpList_plain (o:=⟨none,Op.store _ (.tmp 5) (.tmp 31),_,_,_,_⟩) rfl fun K hK=>?_);(refine HO5.out.store (.tmp 5) (.tmp 31) rfl rfl rfl (RPeer_ok y) fun w6 ho6 hg6 hs6=>hK _ _ ?_);have HO6:=Lib.hid ho6;have HG6:=Lib.hid hg6;clear ho6 hg6 hs6))
    have hs1:=HS1.out
    go_roundw
    case rel=>exact ⟨jj,y,hKl,by go_num,by rw [HP.out,hd];rfl,HO6.out,HZ5.out.of_block (HG6.out.block _ HZ5.out.lt (fun e=>by have:=Option.some.inj e;omega)),HB5.out.grown HG6.out (by have:=HB5.out.size;omega) (fun r e=>by cases e;omega)⟩
    case measure=>simp [intOf];omega
   ·have hd:decide (c < 0) = false:=decide_eq_false hc
    go_upto_region 7 with (fail)
    refine wp_region_grew (by kernel_rfl) (by kernel_rfl) ?_
    repeat (first
     | (go_big_quiet_want;(refine RecT.At.quiet (R:=RPeer) (p:=.tmp 5) (fun w' hw'=>(HO.out.of_new hw').at_) rfl rfl ?_);go_simp;go_big_quiet_on)
     | (go_big_quiet_want;(refine RecT.At.quiet (R:=RPeer) (p:=.tmp 23) (fun w' hw'=>HA.out.of_new hw') rfl rfl ?_);go_simp;go_big_quiet_on)
     | (go_big_quiet_want;(with_reducible apply quiet_load_at (ty:=31) (x:=.tmp _));rfl;rfl;assumption;go_simp;go_big_quiet_on)
     | (go_big_quiet_want;apply quiet_val;(intro w' hw';go_simp;first | done | rfl);go_simp;go_big_quiet_on)
     | (go_big_quiet_want;apply quiet_call (f:=135);(intro w' hw';go_simp;first | done | rfl);(intro w' hw';exact Grew.call hw' (HC.out w'));go_simp;go_big_quiet_on)
     | (go_big_quiet_skip))
    refine wpQuiet_nil ?_
    intro w5 hw5
    go_wp2
    go_roundw
    case rel=>exact ⟨jj,m,hKl,by go_num,by rw [HP.out,hd];rfl,HO.out.of_new hw5,HZ.out.of_new hw5,below_next HB.out hw5⟩
    case measure=>simp [intOf];omega
  ·have hKN:¬ ((k + 1:Nat):Int) < (N:Int):=by have:=HN.out;omega
   rw [List.drop_of_length_le (by omega)] at hp
   have HP:=Lib.hid hp
   have hs1:=HS1.out
   clear hp ho hz hb
   go_wp2_with (first
    | ((with_reducible refine wpList_plain (o:=⟨some 32,Op.load _ _,_,_,_,_⟩) rfl fun K hK=>?_);(refine HO.out.at_.wp rfl rfl (hK _ _ ?_)))
    | ((with_reducible refine wpList_plain (o:=⟨none,Op.store _ (.tmp 4) (.tmp 32),_,_,_,_⟩) rfl fun K hK=>?_);(refine HZ.out.store (.tmp 4) (.tmp 32) rfl rfl rfl (RPeer_ok m) fun w6 ho6 hg6 hs6=>hK _ _ ?_);have HO6:=Lib.hid ho6;have HB6:=Lib.hid (HB.out.grown hg6 (by have:=HB.out.size;omega) (fun k e=>by cases e;exact Nat.le_refl _));clear ho6 hg6 hs6))
   refine bodyPost_ret (RecT.results1 rfl _ rfl HO6.out) rfl ?_
   exact ⟨by rw [HP.out];rfl,HB6.out⟩
end Go.Proofs.YtnohglkilpnjhaaGreatDoor
namespace Go.Proofs.YtnohglkilpnjhaaGreatDoor
open Go.RowKit Go.Shelf
attribute [local go_sem] Oper.semAt_some
set_option maxRecDepth 100000
theorem collectPeers (m:Value) (ps:List PeerL) (w W:World) (hm:MapV KInt w m (ps.map inE)) (hl:ps.length ≤ 1000000) (hW:W = w.alloc (.cells #[m] 168)) :
  Calls Tryz.prog 133 #[.func (.func 156) #[] #[.pointer (some ⟨w.heap.size,0,none⟩)]] W fun e w'=>∃ v qs,e = .returned v∧qs.Perm ps∧RPeer.Own w' W.heap.size v qs∧Below w.heap.size w w':=by
 have hs:W.heap.size = w.heap.size + 1:=by rw [hW];simp
 have hb:Below w.heap.size w W:=by rw [hW];exact (Below.refl _ w).alloc (Nat.le_refl _) _
 have ho:One W w.heap.size m 168:=by rw [hW];exact heap_alloc_new w _
 have hL:∀ x ∈ ps.map inE,∃ q,x = inE q:=fun x hx=>by obtain ⟨q,_,rfl⟩:=List.mem_map.1 hx;exact ⟨q,rfl⟩
 refine (CollectP_any _ _ (ps.map inE) w.heap.size (fun j=>j = w.heap.size) W hL (by simpa using by omega) (by omega) (fun k hk=>by subst hk;omega)
  (enters_of Tryz.func156 (by kernel_rfl) rfl)
  (fun W1 hb1 hs1=>values_seq 4 (by omega) w.heap.size w.heap.size m (ps.map inE) W1 w rfl (hb.trans (hb1.mono (by omega))) (Nat.le_refl _) (ho.of_new hb1) hm hL)).mono ?_
 rintro e w' ⟨v,qs,rfl,hp,hown,hbw⟩
 refine ⟨v,qs,rfl,?_,hown,hb.trans hbw⟩
 have:=hp.map decE
 rwa [dec_map,dec_map] at this
set_option maxHeartbeats 1600000 in
theorem PFirst_any (m:Value) (ps:List PeerL) (w:World) (hm:MapV KInt w m (ps.map inE)) (hr:Rising PeerL.id ps) (h0:ps ≠ []) (hl:ps.length ≤ 1000000) :
  Calls Tryz.prog 83 #[m] w fun e w'=>e = .returned (.int .i64 (firstP ps).id)∧Below w.heap.size w w':=by
 obtain ⟨W,hW⟩:∃ W,w.alloc (.cells #[m] 168) = W:=⟨_,rfl⟩
 have hC:=collectPeers m ps w W hm hl hW.symm
 have hV:=Values_any m w (hm.imp (fun ⟨b,e,_⟩=>⟨b,e⟩) And.left)
 rw [hW] at hV
 have hS:W.heap.size = w.heap.size + 1:=by rw [← hW];simp
 have HC:=Lib.hid hC
 have HV:=Lib.hid hV
 have HR:=Lib.hid hr
 have H0:=Lib.hid h0
 have HS:=Lib.hid hS
 clear hC hV hr h0 hm hW hS
 go_enter Tryz.func83,Tryz.ntmps83
 go_upto_region 2 with (first
  | (go_at_call 103;refine HV.out.mono ?_;rintro e w1 ⟨rfl,rfl⟩)
  | (go_at_call 133;refine HC.out.mono ?_;rintro e w2 ⟨v2,qs,rfl,hp2,ho2,hb2⟩;have HP2:=Lib.hid hp2;have HO2:=Lib.hid ho2;have HB2:=Lib.hid hb2;clear hp2 ho2 hb2))
 cases qs with
 | nil=>exact absurd (HP2.out.length_eq) (by simp;exact fun e=>H0.out (List.length_eq_zero_iff.1 e.symm))
 | cons x l=>
  have hfp:=firstP_perm HR.out HP2.out
  have hM:=MinP_any v2 x l w2 HO2.out.row
  rw [← hfp] at hM
  obtain ⟨a2,c2,hv⟩:=HO2.out.row.len
  subst hv
  have HM:=Lib.hid hM
  have hfi:=field_id (firstP ps)
  clear hM hfp
  go_wp2_with (go_at_call 134;refine HM.out.mono ?_;rintro e w3 ⟨rfl,hb3⟩;rw [show RPeer.V (firstP ps) = .agg #[.int .i64 (firstP ps).id,.int .i64 (firstP ps).till,.bool (firstP ps).seed] from rfl];have HB3:=Lib.hid (below_next HB2.out hb3);clear hb3)
  go_ret
  exact ⟨rfl,HB3.out⟩
def LastI (w:World) (m:Value) (r:Nat) (L:List (Int × Value)) (k:Nat) (nv:Value) (wr:World):Prop:=
 ∃ pre todo:List (Int × Value),IterV KInt wr m r L todo∧(pre ++ todo).Perm L∧nv = .int .i64 (lastP (pre.map decE))∧Below w.heap.size w wr∧w.heap.size + 1 ≤ wr.heap.size∧todo.length ≤ k
set_option maxHeartbeats 1600000 in
theorem PLast_any (m:Value) (ps:List PeerL) (w:World) (hm:MapV KInt w m (ps.map inE)) :
  Calls Tryz.prog 140 #[m] w fun e w'=>e = .returned (.int .i64 (lastP ps))∧Below w.heap.size w w':=by
 have hm2:(∃ b,m = .map (some b))∨m = .map none:=hm.imp (fun ⟨b,e,_⟩=>⟨b,e⟩) And.left
 obtain ⟨L,hL⟩:∃ L,ps.map inE = L:=⟨_,rfl⟩
 have hX:∀ x ∈ L,∃ q,x = inE q:=fun x hx=>by rw [← hL] at hx;obtain ⟨q,_,rfl⟩:=List.mem_map.1 hx;exact ⟨q,rfl⟩
 rw [hL] at hm
 obtain ⟨w1,hr1,hit1,hb1,hs1⟩:=hm.range (t:=168) Tryz.underlying168
 have HIT:=Lib.hid hit1
 have HB1:=Lib.hid hb1
 have HS1:=Lib.hid hs1
 have HL:=Lib.hid hL
 have HX:=Lib.hid hX
 clear hm hit1 hb1 hs1 hL hX
 go_enter Tryz.func140,Tryz.ntmps140
 go_wp2
 go_loopg [3,5,8,9,10,11,12,13,14,15] L.length (fun k nv _ _ _ _ _ _ _ _ _ wr=>LastI w m w.heap.size L k nv wr)
 case atStart=>exact ⟨[],L,HIT.out,List.Perm.refl _,rfl,HB1.out,by rw [HS1.out];exact Nat.le_refl _,Nat.le_refl _⟩
 case round=>
  obtain ⟨pre,todo,hit,hp,rfl,hb,hsz,hlen⟩:=hrel
  have HB:=Lib.hid hb
  have HP:=Lib.hid hp
  rcases hit.next2 0 with ⟨rfl,hnx⟩ | ⟨p,w2,todo2,hpt,hpl,hnx,hit2,hg2,hs2,hen,htl,hst⟩
  ·clear hb hp hit
   go_wp2
   go_ret
   exact ⟨by rw [← lastP_perm (a:=pre.map decE) (b:=ps) (by have:=HP.out.map decE;rwa [List.append_nil,← HL.out,dec_map] at this)];rfl,HB.out⟩
  ·obtain ⟨q,rfl⟩:=HX.out p hpl
   replace hnx:(Instr.next (.pointer (some ⟨w.heap.size,0,none⟩)) false 0).run Tryz.prog wr = .ok (.tuple #[.bool true,.int .i64 q.id,RPeer.V q]) w2:=hnx
   replace hen:(Instr.entry (.pointer (some ⟨w.heap.size,0,none⟩))).run Tryz.prog w2 = .ok (.tuple #[.int .i64 q.id,RPeer.V q]) w2:=hen
   have HPT:=Lib.hid htl
   have HST:=Lib.hid (hst pre hp)
   have HIT2:=Lib.hid hit2
   have HLE:=Lib.hid hlen
   have HB2:=Lib.hid (hb.grown hg2 hb.size (fun k e=>by cases e;exact Nat.le_refl _))
   have HS2:=Lib.hid hs2
   clear hb hp hit hpt hpl hit2 hg2 hlen HP hs2 htl hst
   go_wp2_with (first
    | ((with_reducible refine wpList_plain (o:=⟨some 5,Op.alloc _,_,_,_,_⟩) rfl fun K hK=>?_);(refine RPeer.wp_alloc rfl fun w3 ho3 hb3 hs3=>hK _ _ ?_);have HO3:=Lib.hid ho3;have HB3:=Lib.hid hb3;clear ho3 hb3 hs3)
    | ((with_reducible refine wpList_plain (o:=⟨none,Op.store _ (.tmp 5) (.tmp 11),_,_,_,_⟩) rfl fun K hK=>?_);(refine HO3.out.store (.tmp 5) (.tmp 11) rfl rfl rfl (RPeer_ok q) fun w4 ho4 hg4 hs4=>hK _ _ ?_);have HB4:=Lib.hid (HB3.out.grown hg4 (by have:=HB3.out.size;omega) (fun k e=>by cases e;exact Nat.le_refl _));have hc4:=RPeer_till ho4;clear ho4 hg4 hs4))
   all_goals
    go_roundg todo2.length
    case measure=>have:=HPT.out;have:=HLE.out;omega
    case rel=>
     have q1:=HS2.out
     have q2:=HB4.out.size
     refine ⟨pre ++ [inE q],todo2,HIT2.out.kept ((Kept.refl (fun _=>True) w2).below HB4.out) trivial (fun _ _=>trivial),HST.out,?_,HB2.out.trans (HB4.out.mono (by omega)),by omega,Nat.le_refl _⟩
     rw [List.map_append,List.map_cons,List.map_nil,dec_in,lastP_snoc]
     all_goals (congr 1;all_goals omega)
end Go.Proofs.YtnohglkilpnjhaaGreatDoor
namespace Go.Proofs.YtnohglkilpnjhaaGreatDoor
open Go.RowKit Go.Shelf
attribute [local go_sem] Oper.semAt_some
set_option maxRecDepth 100000
theorem Keys_any (m:Value) (w:World) (hm:(∃ b,m = .map (some b))∨m = .map none) :
  Calls Tryz.prog 137 #[m] w fun e w'=>e = .returned (.func (.func 169) #[] #[.pointer (some ⟨w.heap.size,0,none⟩)])∧w' = w.alloc (.cells #[m] 155):=by
 rcases hm with ⟨b,rfl⟩ | rfl
 all_goals
  go_enter Tryz.func137,Tryz.ntmps137
  go_wp2
  go_ret
  exact ⟨rfl,rfl⟩
abbrev encKey (x:List UInt8 × Value):Array Value:=#[RDig.V x.1]
def KeyI (w0 W:World) (bb:Nat) (m:Value) (L:List (List UInt8 × Value)) (J:List (List UInt8 × Value)→World→Prop) (k:Nat) (wr:World):Prop:=
 ∃ pre todo:List (List UInt8 × Value),IterV KDig wr m W.heap.size L todo∧(pre ++ todo).Perm L∧One wr bb m 155∧Below w0.heap.size w0 wr∧W.heap.size + 1 ≤ wr.heap.size∧J pre wr∧todo.length ≤ k
set_option maxHeartbeats 3200000 in
theorem keys_seq (n:Nat) (hn:1 ≤ n) (bb n0:Nat) (m:Value) (L:List (List UInt8 × Value)) (W w0:World) (hw0:w0.heap.size = n0) (hb0:Below n0 w0 W) (hbb:n0 ≤ bb) (hc:One W bb m 155) (hm:MapV KDig w0 m L) (hL:∀ x ∈ L,x.1.length = 32) :
  SeqT Fence.wide n Tryz.prog 169 #[.pointer (some ⟨bb,0,none⟩)] encKey (fun pre x W'=>x ∈ L) (fun xs=>xs.Perm L) (fun j=>j = bb) n0 L.length W:=fun l J hJ hY h0=>by
 subst hw0
 obtain ⟨G,hG⟩:∃ G:Nat→Prop,G = fun j=>j = bb∨j = W.heap.size:=⟨_,rfl⟩
 have hGF:Fresh (fun j=>j = bb) G W:=fun j hj=>by
  rw [hG] at hj
  rcases hj with h | h
  ·exact .inr h
  ·exact .inl (by omega)
 have hJG:=hJ G hGF
 have hYG:=fun pre x W1=>hY G pre x W1 hGF
 have h0G:=fun W'=>h0 G W' hGF
 have hG1:G bb:=by rw [hG];exact .inl rfl
 have hG3:G W.heap.size:=by rw [hG];exact .inr rfl
 have HG2:=Lib.hid (show ∀ j,G j→j = bb∨j = W.heap.size from fun j hj=>by rw [hG] at hj;exact hj)
 clear hJ hY h0
 refine (CallsIn.mono (R:=fun e W'=>(∃ v,e = .returned v)∧∃ xs,xs.Perm L∧J G xs W') ?_ (fun e W' h=>⟨h.1,G,by obtain ⟨_,xs,h1,h2⟩:=h;exact ⟨xs,hGF,h1,h2⟩⟩))
 clear hGF hG
 have hmb:∀ b,m = .map (some b)→b < w0.heap.size:=fun b e=>by
  rcases hm with ⟨b',rfl,h⟩ | ⟨rfl,_⟩
  ·cases e;exact h.lt
  ·cases e
 have HMB:=Lib.hid hmb
 have hcc:=hc.cell
 have hcf:=hc.free
 obtain ⟨w1,hr1,hit1,hb1,hs1⟩:=(hm.below (Nat.le_refl _) hb0).range (t:=155) Tryz.underlying155
 have hbbW:=hc.lt
 have HIT:=Lib.hid hit1
 have HB1:=Lib.hid hb1
 have HC1:=Lib.hid (hc.of_new hb1)
 have HB0:=Lib.hid (hb0.trans (hb1.mono (by have:=hc.lt;have:=hb0.size;omega)))
 have HJ0:=Lib.hid (h0G w1 hb1)
 have HS1:=Lib.hid hs1
 have HL:=Lib.hid hL
 have hm2:(∃ b,m = .map (some b))∨m = .map none:=hm.imp (fun ⟨b,e,_⟩=>⟨b,e⟩) And.left
 have HM2:=Lib.hid hm2
 clear hmb hb0 hc hm h0G hit1 hb1 hL hm2
 refine callsIn_of_wp Tryz.func169 rfl trivial ?_ rfl
 simp only [Tryz.ntmps169,List.size_toArray,List.length_cons,List.length_nil,Nat.reduceAdd,Nat.reduceSub,Array.replicate_succ,Array.replicate_zero,List.push_toArray,List.append_toArray,List.nil_append,List.cons_append]
 gi_wp2
 gi_loopg [3,6,7,8,9,10,11,12,13] L.length (fun k _ _ _ _ _ _ _ _ _ wr=>KeyI w0 W bb m L (J G) k wr)
 case atStart=>exact ⟨[],L,HIT.out,List.Perm.refl _,HC1.out,HB0.out,by rw [HS1.out];exact Nat.le_refl _,HJ0.out,Nat.le_refl _⟩
 case round=>
  obtain ⟨pre,todo,hit,hp,ho,hb,hsz,hj,hlen⟩:=hrel
  have HO:=Lib.hid ho
  have HB:=Lib.hid hb
  have HP:=Lib.hid hp
  rcases hit.next2 0 with ⟨rfl,hnx⟩ | ⟨p,w2,todo2,hpt,hpl,hnx,hit2,hg2,hs2,hen,htl,hst⟩
  ·clear ho hb hp hit
   gi_wp2
   go_end0
   exact ⟨⟨_,rfl⟩,pre,by have:=HP.out;rwa [List.append_nil] at this,hj⟩
  ·have h32:=HL.out p hpl;obtain ⟨d,u⟩:=p;have H32:=Lib.hid (show RDig.ok d from h32);clear h32
   replace hnx:(Instr.next (.pointer (some ⟨W.heap.size,0,none⟩)) false 0).run Tryz.prog wr = .ok (.tuple #[.bool true,RDig.V d,u]) w2:=hnx
   replace hen:(Instr.entry (.pointer (some ⟨W.heap.size,0,none⟩))).run Tryz.prog w2 = .ok (.tuple #[RDig.V d,u]) w2:=hen
   have HIN:=Lib.hid hpl
   have HPT:=Lib.hid htl
   have HST:=Lib.hid (hst pre hp)
   have HLEN:=Lib.hid (show pre.length < L.length by have h1:=hp.length_eq;rw [List.length_append] at h1;have:=List.length_pos_of_mem hpt;omega)
   have HIT2:=Lib.hid hit2
   have HG2':=Lib.hid hg2
   have HJ:=Lib.hid hj
   have HLE:=Lib.hid hlen
   have HS2:=Lib.hid hs2
   clear ho hb hp hit hpt hpl hit2 hg2 hj hlen HP hs2 htl hst
   gi_wp2_with (first
    | ((with_reducible refine wpListIn_one (o:=⟨some 3,Op.alloc _,_,_,_,_⟩) rfl (fun c hc=>by cases hc) ?_);(refine RDig.wp_alloc rfl fun w3 ho3 hb3 hs3=>?_);have HO3:=Lib.hid ho3;have HB3:=Lib.hid hb3;clear ho3 hb3 hs3)
    | ((with_reducible refine wpListIn_one (o:=⟨none,Op.store _ (.tmp 3) (.tmp 9),_,_,_,_⟩) rfl (fun c hc=>by cases hc) ?_);(refine HO3.out.store (.tmp 3) (.tmp 9) rfl rfl rfl (H32.out) fun w4 ho4 hg4 hs4=>?_);have HB4:=Lib.hid (HB3.out.grown hg4 (by have:=HB3.out.size;omega) (fun k e=>by cases e;exact Nat.le_refl _));have HO4:=Lib.hid ho4;clear ho4 hg4 hs4)
    | ((with_reducible refine wpListIn_one (o:=⟨some 11,Op.load _ _,_,_,_,_⟩) rfl (fun c hc=>by cases hc) ?_);(refine HO4.out.at_.wp rfl rfl ?_);have hB24:=HB4.out;have hsz4:=hB24.size;have hS2:=HS2.out;have hk4:Kept (fun k=>¬ G k) wr w4:=((Kept.refl _ wr).grown HG2'.out (fun r e=>by cases e;exact fun h=>h hG3)).below hB24;have hit4:IterV KDig w4 m W.heap.size L todo2:=HIT2.out.kept ((Kept.refl (fun _=>True) w2).below hB24) trivial (fun _ _=>trivial);have ho4:One w4 bb m 155:=(HO.out.of_block (HG2'.out.block _ HO.out.lt (fun e=>by cases e;omega))).of_new hB24;have hb4:Below w0.heap.size w0 w4:=(HB.out.grown HG2'.out (by have:=HB.out.size;omega) (fun k e=>by cases e;have:=HB0.out.size;have:=HC1.out.lt;omega)).trans (hB24.mono (by have:=HB.out.size;omega));obtain ⟨fn,tmps,assign,body,hy,hR⟩:=hYG pre ((d,u)) w4 (fun j hj=>by rcases HG2.out j hj with h | h <;> (subst h;first | exact ho4.lt | omega)) (hJG _ _ _ HJ.out hk4) HIN.out HLEN.out;have HIT4:=Lib.hid hit4;have HO4':=Lib.hid ho4;have HB4':=Lib.hid hb4;clear hk4 hit4 ho4 hb4 hB24;dsimp only [encKey,inE] at hy))
   refine hR.mono ?_
   rintro e W3 ⟨rfl,hJ3,hk3⟩
   have HJ3:=Lib.hid hJ3
   have hit3:=HIT4.out.kept hk3 (.inl hG3) (fun b e=>.inr (HMB.out b e))
   have ho3:=HO4'.out.of_block (hk3.block _ HO4'.out.lt (.inl hG1))
   have hb3:Below w0.heap.size w0 W3:=hk3.to_below HB4'.out (by have:=HB4'.out.size;omega) (fun k hk=>.inr hk)
   have hs3:=hk3.size
   gi_wp2
   gi_roundg todo2.length
   case measure=>have:=HPT.out;have:=HLE.out;omega
   case rel=>
    have q1:=HS2.out
    have q2:=HB4.out.size
    exact ⟨pre ++ [(d,u)],_,hit3,HST.out,ho3,hb3,by omega,HJ3.out,Nat.le_refl _⟩
end Go.Proofs.YtnohglkilpnjhaaGreatDoor
namespace Go.Proofs.YtnohglkilpnjhaaGreatDoor
open Go.RowKit Go.Shelf
attribute [local go_sem] Oper.semAt_some
set_option maxRecDepth 100000
def CollKI (w:World) (n0:Nat) (G:Nat→Prop) (pre:List (List UInt8 × Value)) (W:World):Prop:=
 ∃ ov ps,pre.map Prod.fst = ps∧One W w.heap.size ov 34∧RDig.Own W (w.heap.size + 3) ov ps∧(∀ k,ov.ownBlock = some k→¬ G k)∧Below n0 w W∧w.heap.size + 1 ≤ W.heap.size
def CollKG (w:World) (tm:Value→Value→Array Value) (x:List UInt8 × Value) (a:Act) (W:World):Prop:=
 ∃ g q,(x.1 = q∧q.length = 32)∧w.heap.size + 3 ≤ g∧RDig.O W g q∧a = { tmps:=tm (.pointer (some ⟨g,0,none⟩)) (RDig.V q),defers:=[] }
set_option maxHeartbeats 3200000 in
theorem AppendSeqK_any (gf:Nat) (lb:Array Value) (L:List (List UInt8 × Value)) (n0:Nat) (O:Nat→Prop) (w:World) (hLx:∀ x ∈ L,x.1.length = 32) (hL:L.length ≤ 1048576) (hn0:n0 ≤ w.heap.size) (hO:∀ k,O k→n0 ≤ k∧k < w.heap.size)
  (eg:∀ args w,(callFunc gf args).run Tryz.prog w = .ok (.enter gf args) w)
  (hseq:∀ W1,Below w.heap.size w W1→w.heap.size ≤ W1.heap.size→SeqT Fence.wide 4 Tryz.prog gf lb (fun x:List UInt8 × Value=>#[RDig.V x.1]) (fun pre x _=>x ∈ L) (fun xs=>xs.Perm L) O n0 L.length W1) :
  Calls Tryz.prog 120 #[.slice none 0 0,.func (.func gf) #[] lb] w fun e w'=>∃ v ps,e = .returned v∧ps.Perm (L.map Prod.fst)∧RDig.Own w' w.heap.size v ps∧Below n0 w w':=by
 refine (callsIn_wide (n:=5)).1 ?_
 refine callsIn_of_wp_marks Tryz.func120 rfl trivial ?_ rfl
 simp only [Tryz.ntmps120,List.size_toArray,List.length_cons,List.length_nil,Nat.reduceAdd,Nat.reduceSub,Array.replicate_succ,Array.replicate_zero,List.push_toArray,List.append_toArray,List.nil_append,List.cons_append]
 gi_wp2
 generalize hW0:w.alloc _ = W0
 obtain ⟨hsz,hB0,o1⟩:W0.heap.size = w.heap.size + 1∧Below w.heap.size w W0∧One W0 w.heap.size (.slice none 0 0) 34:=by
  subst hW0
  exact ⟨by simp,(Below.refl _ w).alloc (Nat.le_refl _) _,heap_alloc_new _ _⟩
 clear hW0
 refine wpIn_rangeFunc_total (F:=Fence.wide) (n:=5) rfl (by omega) (gf:=gf) (lb:=lb) rfl trivial eg (encs:=fun x:List UInt8 × Value=>#[RDig.V x.1]) (It:=fun pre x _=>x ∈ L) (S:=fun xs=>xs.Perm L) (O:=O) (n0:=n0) (N:=L.length) (by omega) (fun k h=>by have:=(hO k h).2;omega)
  (fun W1 hb1 hs1=>hseq W1 (hB0.trans (hb1.mono (by omega))) (by omega)) (fun _=>rfl)
  (CollKI w n0)
  (fun G s A B hG hs hk=>by
   obtain ⟨ov,ps,a0,a1,a2,a3,a4,a5⟩:=hs
   refine ⟨ov,ps,a0,a1.of_block (hk.block _ a1.lt ⟨fun h=>?_,by omega⟩),a2.kept (fun k hk2=>hk.block _ (a2.lt k hk2).2 ⟨a3 k hk2,?_⟩),a3,hk.to_below a4 (by omega) (fun k hk2=>⟨fun h=>?_,by omega⟩),Nat.le_trans a5 hk.size⟩
   ·rcases hG _ h with h | h
    ·omega
    ·have:=(hO _ h).2;omega
   ·have:=(a2.lt k hk2).1;omega
   ·rcases hG _ h with h | h
    ·omega
    ·have:=(hO _ h).1;omega)
  (fun _ _ _ _ h _=>h)
  (fun G W' hG hb=>⟨.slice none 0 0,[],rfl,o1.of_block (hb.block _ (by omega)),RecT.Own.nil _ _,(fun k h=>by cases h),(hB0.trans (hb.mono (by omega))).mono hn0,by have:=hb.size;omega⟩)
  (CollKG w fun p y=>#[.slice none 0 0,.func (.func gf) #[] lb,.pointer (some ⟨w.heap.size,0,none⟩),undef,.slice none 0 0,p,.func (.func gf) #[] lb,y,undef,undef,undef,undef,undef])
  (fun x a A B hg hk=>by
   obtain ⟨g,q,h0,h1,h2,h4⟩:=hg
   exact ⟨g,q,h0,h1,h2.of_block (hk.block g h2.lt (by omega)),h4⟩)
  ?assign ?body ?done
 case assign=>
  intro l pre x W K hit hs hK
  have h32:=hLx x hit;obtain ⟨q,u⟩:=x;replace h32:RDig.ok q:=h32
  have hK':=Lib.hid hK
  clear hK
  dsimp only
  go_simp
  gi_wp2_with (first
   | ((with_reducible refine wpListIn_round (o:=⟨some 5,Op.alloc _,_,_,_,_⟩) rfl (fun c hc=>by cases hc) ?_);(refine RDig.wp_alloc rfl fun w3 ho3 hb3 hs3=>?_);have HO3:=Lib.hid ho3;have HB3:=Lib.hid hb3;clear ho3 hb3 hs3)
   | ((with_reducible refine wpListIn_round (o:=⟨none,Op.store _ (.tmp 5) (.tmp 7),_,_,_,_⟩) rfl (fun c hc=>by cases hc) ?_);(refine HO3.out.store (.tmp 5) (.tmp 7) rfl rfl rfl (h32) fun w4 ho4 hg4 hs4=>?_);have HB4:=Lib.hid (HB3.out.grown hg4 (by have:=HB3.out.size;omega) (fun k e=>by cases e;exact Nat.le_refl _));have HO4:=Lib.hid ho4;clear ho4 hg4 hs4))
  exact hK'.out _ _ HB4.out ⟨W.heap.size,q,⟨rfl,h32⟩,by omega,HO4.out,rfl⟩
 case body=>
  rintro l G pre x a' W hG hGl ⟨ov,ps,q0,q1,q2,q3,q4,q5⟩ hit ⟨g,q,⟨hxq,h32⟩,g1,g2,rfl⟩ hlen hW2
  obtain ⟨oa,oc,hv⟩:=q2.row.len
  subst hv
  have qc:=q1.cell
  have qf:=q1.free
  have hGw:¬ G w.heap.size:=fun h=>by
   rcases hG _ h with h | h
   ·omega
   ·have:=(hO _ h).2;omega
  have HQ2:=Lib.hid q2
  have HG2:=Lib.hid g2
  have hpl:ps.length < L.length:=by rw [← q0,List.length_map];exact hlen
  gi_wp2_with (first
   | ((with_reducible refine wpListIn_round (o:=⟨some 9,_,_,_,_,_⟩) rfl (fun c hc=>by cases hc) ?_);refine HG2.out.at_.wp rfl rfl ?_)
   | ((with_reducible refine wpListIn_round (o:=⟨some 10,_,_,_,_,_⟩) rfl (fun c hc=>by cases hc) ?_);refine RDig.wp_build1 (x:=q) Tryz.underlying34 (.tmp 9) (h32) rfl rfl ?_;intro w2 ho2 hb2 hs2;have HO2:=Lib.hid ho2.row;have HB2:=Lib.hid hb2;have HQ3:=Lib.hid (q2.kept (w':=w2) (fun k hk2=>hb2.block _ (q2.lt k hk2).2));have qc2:=(q1.of_new hb2).cell;have qf2:=(q1.of_new hb2).free;clear ho2 hb2)
   | ((with_reducible refine wpListIn_round (o:=⟨some 11,_,_,_,_,_⟩) rfl (fun c hc=>by cases hc) ?_);refine HQ3.out.app Tryz.underlying34 (.tmp 8) (.tmp 10) rfl rfl rfl HO2.out (by simp;omega) (by omega) ?_;intro v3 w3 ho3 hg3 hu3;obtain ⟨va,vc,hv3⟩:=ho3.row.len;subst hv3;have q13:=(q1.of_new HB2.out).grown hg3 (fun e=>by have:=(HQ3.out.lt _ e.symm).1;omega);have qc3:=q13.cell;have qf3:=q13.free))
  have hwne:∀ r,(Value.slice oa ps.length oc).ownBlock = some r→w.heap.size + 3 ≤ r:=fun r e=>(q2.lt r e).1
  have ho4:RDig.Own (w3.setCell ⟨w.heap.size,0,none⟩ (.slice va (ps.length + 1) vc)) (w.heap.size + 3) (.slice va (ps.length + 1) vc) (ps ++ [q]):=by
   rw [List.length_append,List.length_singleton] at ho3
   exact ho3.kept (fun k hk2=>Below.heap_setCell _ _ _ _ (by have:=(ho3.lt k hk2).1;show k ≠ w.heap.size;omega))
  refine ⟨(((Kept.refl _ W).below HB2.out).grown hg3 (fun r e=>?_)).setCell (fun h=>?_) _,_,ps ++ [q],by simp [q0,hxq],q13.set _,ho4,fun k hk2 hGk=>?_,?_,?_⟩
  ·rintro (h | h | h | h)
   ·exact q3 r e h
   ·have:=hwne r e;omega
   ·have:=hwne r e;omega
   ·have:=hwne r e;omega
  ·rcases h with h | h | h | h
   ·exact hGw h
   ·dsimp only at h;omega
   ·dsimp only at h;omega
   ·dsimp only at h;omega
  ·rcases hu3 k (by rw [List.length_append] at *;exact hk2) with h | h
   ·exact q3 k h hGk
   ·have:=hGl k hGk;have:=HB2.out.size;omega
  ·have hA:Below n0 w w2:=q4.trans (HB2.out.mono (by omega))
   exact (hA.grown hg3 (by omega) (fun r e=>by have:=hwne r e;omega)).setCell (by show n0 ≤ w.heap.size;omega) _
  ·have:=hg3.size
   have:=HB2.out.size
   simp only [World.size_setCell];omega
 case done=>
  rintro G xs W hS ⟨ov,ps,q0,q1,q2,q3,q4,q5⟩ hW2 hD
  obtain ⟨oa,oc,hv⟩:=q2.row.len
  subst hv
  have qc:=q1.cell
  have qf:=q1.free
  gi_wp2
  refine ⟨by simp,.inl ⟨_,_,rfl,run_takeDeferred hD,?_⟩⟩
  refine ⟨_,results_tmp rfl _ _ _,?_⟩
  have ho:=q2.kept (w':=W.putObj W0.heap.size (.deferred none)) (fun k hk2=>World.putObj_heap_other (by have:=(q2.lt k hk2).1;omega))
  exact ⟨_,ps,rfl,by rw [← q0];exact hS.map _,ho.mono (by omega),q4.grown (grownBy_putObj' _ _ _) (by omega) (fun k e=>by cases e;omega)⟩
set_option maxHeartbeats 800000 in
theorem CollectK_any (gf:Nat) (lb:Array Value) (L:List (List UInt8 × Value)) (n0:Nat) (O:Nat→Prop) (w:World) (hLx:∀ x ∈ L,x.1.length = 32) (hL:L.length ≤ 1048576) (hn0:n0 ≤ w.heap.size) (hO:∀ k,O k→n0 ≤ k∧k < w.heap.size)
  (eg:∀ args w,(callFunc gf args).run Tryz.prog w = .ok (.enter gf args) w)
  (hseq:∀ W1,Below w.heap.size w W1→w.heap.size ≤ W1.heap.size→SeqT Fence.wide 4 Tryz.prog gf lb (fun x:List UInt8 × Value=>#[RDig.V x.1]) (fun pre x _=>x ∈ L) (fun xs=>xs.Perm L) O n0 L.length W1) :
  Calls Tryz.prog 75 #[.func (.func gf) #[] lb] w fun e w'=>∃ v ps,e = .returned v∧ps.Perm (L.map Prod.fst)∧RDig.Own w' w.heap.size v ps∧Below n0 w w':=by
 go_enter Tryz.func75,Tryz.ntmps75
 go_wp2_with fail
 refine (AppendSeqK_any gf lb L n0 O w hLx hL hn0 hO eg hseq).mono ?_
 rintro e w2 ⟨v,ps,rfl,hp,ho,hb⟩
 go_wp2
 go_ret
 exact ⟨v,ps,rfl,hp,ho,hb⟩
end Go.Proofs.YtnohglkilpnjhaaGreatDoor
namespace Go.Proofs.YtnohglkilpnjhaaGreatDoor
def uint (n:Nat):List UInt8:=if n < 128 then [UInt8.ofNat n] else UInt8.ofNat (n % 128 + 128) :: uint (n / 128)
termination_by n
decreasing_by omega
theorem uint_small {n:Nat} (h:n < 128):uint n = [UInt8.ofNat n]:=by rw [uint,if_pos h]
theorem uint_big {n:Nat} (h:128 ≤ n):uint n = UInt8.ofNat (n % 128 + 128) :: uint (n / 128):=by rw [uint,if_neg (by omega)]
theorem uint_len (f:Nat):∀ n,n < 128 ^ (f + 1)→(uint n).length ≤ f + 1:=by
 induction f with
 | zero=>intro n h;rw [uint_small (by simpa using h)];simp
 | succ f ih=>
  intro n h
  by_cases hn:n < 128
  ·rw [uint_small hn];simp
  ·rw [uint_big (by omega)]
   have:=ih (n / 128) (by rw [Nat.pow_succ] at h;omega)
   simp;omega
theorem uint_len10 {n:Nat} (h:n < 18446744073709551616):(uint n).length ≤ 10:=uint_len 9 n (by omega)
theorem or128_u8 (c:Nat) (hc:c < 256):(bits BinOp.or IntKind.u8 (c:Int) 128) = ((c % 128 + 128:Nat):Int):=by
 rw [show (128:Int) = ((128:Nat):Int) from rfl,u8_or_nat _ _ hc (by decide)]
 congr 1
 have:∀ c:Fin 256,c.val ||| 128 = c.val % 128 + 128:=by decide +kernel
 exact this ⟨c,hc⟩
def cutL (k acc:Nat):List UInt8→Option (Nat × Nat)
 | []=>none
 | c :: r=>if k = 10∨(k = 9∧1 < c.toNat) then none
  else if c.toNat < 128 then (if k = 0∨0 < c.toNat then some (acc + c.toNat * 128 ^ k,k + 1) else none)
  else cutL (k + 1) (acc + (c.toNat % 128) * 128 ^ k) r
def encF:List (Int × List UInt8)→Int→List UInt8→Option (List UInt8)
 | [],_,out=>some out
 | x :: r,last,out=>if x.1 ≤ last∨63 < x.1∨65536 - (out.length:Int) < x.2.length then none
  else if 65536 < (out ++ [UInt8.ofNat x.1.toNat] ++ uint x.2.length ++ x.2).length then none
  else encF r x.1 (out ++ [UInt8.ofNat x.1.toNat] ++ uint x.2.length ++ x.2)
def encL (l:List (Int × List UInt8)):Option (List UInt8):=encF l 0 []
def rencF:List (Int × List UInt8)→Int→List UInt8→Option (List UInt8)
 | [],_,out=>some out
 | x :: r,last,out=>if x.1 ≤ last∨63 < x.1∨65536 < x.2.length then none
  else if 65536 < (out ++ [UInt8.ofNat x.1.toNat] ++ uint x.2.length ++ x.2).length then none
  else rencF r x.1 (out ++ [UInt8.ofNat x.1.toNat] ++ uint x.2.length ++ x.2)
def rencL (l:List (Int × List UInt8)):Option (List UInt8):=if 63 < l.length then none else rencF l 0 []
theorem rencF_eq (l:List (Int × List UInt8)):∀ (last:Int) (out:List UInt8),out.length ≤ 65536→rencF l last out = encF l last out:=by
 induction l with
 | nil=>intro last out _;rfl
 | cons x r ih=>
  intro last out ho
  rw [rencF,encF]
  by_cases h1:x.1 ≤ last∨63 < x.1∨65536 < x.2.length
  ·rw [if_pos h1,if_pos (by omega)]
  ·rw [if_neg h1]
   by_cases h2:65536 < (out ++ [UInt8.ofNat x.1.toNat] ++ uint x.2.length ++ x.2).length
   ·rw [if_pos h2]
    split
    ·rfl
    ·rfl
   ·rw [if_neg h2]
    have h3:(out ++ [UInt8.ofNat x.1.toNat] ++ uint x.2.length ++ x.2).length = out.length + 1 + (uint x.2.length).length + x.2.length:=by simp;omega
    rw [if_neg (by omega),if_neg h2]
    exact ih _ _ (by omega)
theorem encF_many (l:List (Int × List UInt8)):∀ (last:Int) (out:List UInt8),63 < last + l.length→0 ≤ last→last ≤ 63→encF l last out = none:=by
 induction l with
 | nil=>intro last out h h0 h1;simp at h;omega
 | cons x r ih=>
  intro last out h h0 h1
  rw [encF]
  split
  ·rfl
  ·split
   ·rfl
   ·refine ih _ _ ?_ (by omega) (by omega)
    simp at h;omega
theorem rencL_eq (l:List (Int × List UInt8)):rencL l = encL l:=by
 unfold rencL encL
 split
 ·rw [encF_many l 0 [] (by omega) (by omega) (by omega)]
 ·exact rencF_eq l 0 [] (by simp)
end Go.Proofs.YtnohglkilpnjhaaGreatDoor
namespace Go.Proofs.YtnohglkilpnjhaaGreatDoor
open Go.RowKit
abbrev It:=Int × List UInt8
def Items (w:World) (v:Value) (l:List It):Prop:=
 ∃ (a:Option Addr) (c:Nat),v = .slice a l.length c∧l.length ≤ c∧c ≤ maxLen∧(a = none→c = 0) ∧
  (0 < l.length→∃ b off,a = some ⟨b,off,none⟩∧b < w.heap.size∧∀ i,i < l.length→w.cell? ⟨b,off + i * 2,none⟩ = some (.int .i64 (l.getD i (0,[])).1) ∧
   ∃ u,w.cell? ⟨b,off + i * 2 + 1,none⟩ = some u∧Bytes w u (l.getD i (0,[])).2)
theorem Items.len {w:World} {v:Value} {l:List It} (h:Items w v l):∃ a c,v = .slice a l.length c:=by
 obtain ⟨a,c,rfl,_⟩:=h
 exact ⟨a,c,rfl⟩
theorem Items.le {w:World} {v:Value} {l:List It} (h:Items w v l):l.length ≤ 9223372036854775807:=by
 obtain ⟨a,c,rfl,h1,h2,_⟩:=h
 unfold maxLen at h2;omega
theorem Items.of_new {w w':World} {v:Value} {l:List It} (h:Items w v l) (hg:Below w.heap.size w w'):Items w' v l:=by
 obtain ⟨a,c,rfl,h2,h3,h4,h5⟩:=h
 refine ⟨a,c,rfl,h2,h3,h4,fun h=>?_⟩
 obtain ⟨b,off,rfl,hb,hc⟩:=h5 h
 refine ⟨b,off,rfl,Nat.lt_of_lt_of_le hb hg.size,fun i hi=>?_⟩
 obtain ⟨h6,u,h7,h8⟩:=hc i hi
 exact ⟨(hg.cell (p:=⟨b,off + i * 2,none⟩) hb).trans h6,u,(hg.cell (p:=⟨b,off + i * 2 + 1,none⟩) hb).trans h7,h8.of_new hg⟩
theorem Items.cell {w:World} {v:Value} {l:List It} (h:Items w v l) (h0:0 < l.length):∃ b off c,v = .slice (some ⟨b,off,none⟩) l.length c∧b < w.heap.size ∧
  ∀ i,i < l.length→w.cell? ⟨b,off + i * 2,none⟩ = some (.int .i64 (l.getD i (0,[])).1)∧∃ u,w.cell? ⟨b,off + i * 2 + 1,none⟩ = some u∧Bytes w u (l.getD i (0,[])).2:=by
 obtain ⟨a,c,rfl,h2,h3,h4,h5⟩:=h
 obtain ⟨b,off,rfl,hb,hc⟩:=h5 h0
 exact ⟨b,off,c,rfl,hb,hc⟩
theorem drop_at_it {l:List It} {k:Nat} (h:k < l.length):l.drop k = l.getD k (0,[]) :: l.drop (k + 1):=by
 rw [List.drop_eq_getElem_cons h];simp [List.getD,List.getElem?_eq_getElem h]
end Go.Proofs.YtnohglkilpnjhaaGreatDoor
namespace Go.Proofs.YtnohglkilpnjhaaGreatDoor
def oneI:List UInt8→Option (It × List UInt8)
 | []=>none
 | x :: r=>match cutL 0 0 r with
  | none=>none
  | some (n,m)=>if (r.drop m).length < n then none else some ((((x.toNat:Nat):Int),(r.drop m).take n),(r.drop m).drop n)
def itemsP:Nat→List UInt8→List It
 | 0,_=>[]
 | f + 1,b=>if b = [] then [] else match oneI b with
  | none=>[(0,[])]
  | some (x,r)=>x :: itemsP f r
def itemsL (b:List UInt8):List It:=itemsP b.length b
def checkF:List It→Int→Option (List It)
 | [],_=>some []
 | x :: xs,last=>if x.1 ≤ last∨63 < x.1 then none else (checkF xs x.1).map (x :: ·)
def lastN:List It→Int→Int
 | [],last=>last
 | x :: xs,_=>lastN xs x.1
theorem checkF_some:∀ (l:List It) (last:Int) (m:List It),checkF l last = some m→m = l
 | [],last,m,h=>by simp only [checkF,Option.some.injEq] at h;exact h.symm
 | y :: l,last,m,h=>by
  simp only [checkF] at h
  split at h
  ·cases h
  ·cases hc:checkF l y.1 with
   | none=>rw [hc] at h;cases h
   | some q=>
    rw [hc] at h
    simp only [Option.map_some,Option.some.injEq] at h
    rw [← h,checkF_some l y.1 q hc]
def itB (x:It):List UInt8:=UInt8.ofNat x.1.toNat :: (uint x.2.length ++ x.2)
def flatB (l:List It):List UInt8:=l.flatMap itB
theorem flatB_cons (x:It) (l:List It):flatB (x :: l) = itB x ++ flatB l:=by simp [flatB]
theorem encF_parts:∀ (l:List It) (last:Int) (out c:List UInt8),out.length ≤ 65536→encF l last out = some c→c = out ++ flatB l∧checkF l last = some l∧c.length ≤ 65536
 | [],last,out,c,ho,h=>by
  simp only [encF,Option.some.injEq] at h
  subst h
  exact ⟨by simp [flatB],rfl,ho⟩
 | x :: r,last,out,c,ho,h=>by
  rw [encF] at h
  split at h
  ·cases h
  ·rename_i h1
   split at h
   ·cases h
   ·rename_i h2
    obtain ⟨q1,q2,q3⟩:=encF_parts r x.1 _ c (by omega) h
    refine ⟨?_,?_,q3⟩
    ·rw [q1,flatB_cons];simp [itB]
    ·simp only [checkF]
     rw [if_neg (by omega),q2];rfl
theorem encF_of:∀ (l:List It) (last:Int) (out:List UInt8),checkF l last = some l→(out ++ flatB l).length ≤ 65536→encF l last out = some (out ++ flatB l)
 | [],last,out,_,_=>by simp [encF,flatB]
 | x :: r,last,out,h,hl=>by
  simp only [checkF] at h
  split at h
  ·cases h
  ·rename_i h1
   have hc:checkF r x.1 = some r:=by
    cases hc:checkF r x.1 with
    | none=>rw [hc] at h;cases h
    | some q=>rw [checkF_some r x.1 q hc]
   rw [flatB_cons,itB] at hl
   simp only [List.length_append,List.length_cons] at hl
   rw [encF,if_neg (by omega),if_neg (by simp only [List.length_append,List.length_cons,List.length_nil];omega),encF_of r x.1 _ hc (by simp only [List.length_append,List.length_cons,List.length_nil];omega)]
   rw [flatB_cons,itB];simp
theorem encL_le {l:List It} {c:List UInt8} (h:encL l = some c):c.length ≤ 65536:=(encF_parts l 0 [] c (by simp) h).2.2
end Go.Proofs.YtnohglkilpnjhaaGreatDoor
namespace Go.Proofs.YtnohglkilpnjhaaGreatDoor
open Go.RowKit
def w32 (x:UInt32):Int:=(x.toNat:Int)
theorem w32_nat (x:UInt32):w32 x = (x.toNat:Int):=rfl
theorem w32_add (x y:UInt32):IntKind.u32.wrap (w32 x + w32 y) = w32 (x + y):=by
 rw [IntKind.wrap_u32'];unfold w32;rw [UInt32.toNat_add];simp
theorem w32_xor (x y:UInt32):bits BinOp.xor IntKind.u32 (w32 x) (w32 y) = w32 (x ^^^ y):=by
 unfold w32;rw [u32_xor_nat _ _ (by have:=x.toNat_lt;omega) (by have:=y.toNat_lt;omega),UInt32.toNat_xor]
theorem w32_and (x y:UInt32):bits BinOp.and IntKind.u32 (w32 x) (w32 y) = w32 (x &&& y):=by
 unfold w32;rw [u32_and_nat _ _ (by have:=x.toNat_lt;omega) (by have:=y.toNat_lt;omega),UInt32.toNat_and]
theorem w32_or (x y:UInt32):bits BinOp.or IntKind.u32 (w32 x) (w32 y) = w32 (x ||| y):=by
 unfold w32;rw [u32_or_nat _ _ (by have:=x.toNat_lt;omega) (by have:=y.toNat_lt;omega),UInt32.toNat_or]
theorem w32_shr10 (x:UInt32):w32 x / (1024:Int) = w32 (x >>> 10):=by
 unfold w32;rw [UInt32.toNat_shiftRight,Nat.shiftRight_eq_div_pow];simp
theorem w32_shr3 (x:UInt32):w32 x / (8:Int) = w32 (x >>> 3):=by
 unfold w32;rw [UInt32.toNat_shiftRight,Nat.shiftRight_eq_div_pow];simp
def rotr (x:UInt32) (n:Nat):UInt32:=UInt32.ofNat (x.toNat * 2 ^ (32 - n) % 4294967296 ||| x.toNat / 2 ^ n)
theorem or_lt32 {a b:Nat} (ha:a < 4294967296) (hb:b < 4294967296):a ||| b < 4294967296:=Nat.or_lt_two_pow (n:=32) ha hb
theorem rotr_nat (x:UInt32) (n:Nat):(rotr x n).toNat = x.toNat * 2 ^ (32 - n) % 4294967296 ||| x.toNat / 2 ^ n:=by
 unfold rotr
 have:=x.toNat_lt
 have h1:x.toNat / 2 ^ n < 4294967296:=Nat.lt_of_le_of_lt (Nat.div_le_self _ _) (by omega)
 simp only [UInt32.toNat_ofNat']
 exact Nat.mod_eq_of_lt (or_lt32 (Nat.mod_lt _ (by decide)) h1)
theorem w32_rot (x:UInt32) (n m:Nat) (h:n + m = 32):bits BinOp.or IntKind.u32 (IntKind.u32.wrap (w32 x * 2 ^ m)) (w32 x / 2 ^ n) = w32 (rotr x n):=by
 have hx:=x.toNat_lt
 have e1:IntKind.u32.wrap (w32 x * 2 ^ m) = ((x.toNat * 2 ^ (32 - n) % 4294967296:Nat):Int):=by
  rw [IntKind.wrap_u32',show 32 - n = m from by omega];unfold w32;simp
 have e2:w32 x / 2 ^ n = ((x.toNat / 2 ^ n:Nat):Int):=by unfold w32;simp
 have h1:x.toNat / 2 ^ n < 4294967296:=Nat.lt_of_le_of_lt (Nat.div_le_self _ _) (by omega)
 rw [e1,e2,u32_or_nat _ _ (Nat.mod_lt _ (by decide)) h1,w32_nat,rotr_nat]
def shaK:List UInt32:=[
 0x428a2f98,0x71374491,0xb5c0fbcf,0xe9b5dba5,0x3956c25b,0x59f111f1,0x923f82a4,0xab1c5ed5,
 0xd807aa98,0x12835b01,0x243185be,0x550c7dc3,0x72be5d74,0x80deb1fe,0x9bdc06a7,0xc19bf174,
 0xe49b69c1,0xefbe4786,0x0fc19dc6,0x240ca1cc,0x2de92c6f,0x4a7484aa,0x5cb0a9dc,0x76f988da,
 0x983e5152,0xa831c66d,0xb00327c8,0xbf597fc7,0xc6e00bf3,0xd5a79147,0x06ca6351,0x14292967,
 0x27b70a85,0x2e1b2138,0x4d2c6dfc,0x53380d13,0x650a7354,0x766a0abb,0x81c2c92e,0x92722c85,
 0xa2bfe8a1,0xa81a664b,0xc24b8b70,0xc76c51a3,0xd192e819,0xd6990624,0xf40e3585,0x106aa070,
 0x19a4c116,0x1e376c08,0x2748774c,0x34b0bcb5,0x391c0cb3,0x4ed8aa4a,0x5b9cca4f,0x682e6ff3,
 0x748f82ee,0x78a5636f,0x84c87814,0x8cc70208,0x90befffa,0xa4506ceb,0xbef9a3f7,0xc67178f2]
def word4 (b:List UInt8) (t:Nat):UInt32:=
 UInt32.ofNat (((b.getD (4 * t) 0).toNat * 16777216 + (b.getD (4 * t + 1) 0).toNat * 65536 + (b.getD (4 * t + 2) 0).toNat * 256 + (b.getD (4 * t + 3) 0).toNat) % 4294967296)
def sg0 (x:UInt32):UInt32:=rotr x 7 ^^^ rotr x 18 ^^^ (x >>> 3)
def sg1 (x:UInt32):UInt32:=rotr x 17 ^^^ rotr x 19 ^^^ (x >>> 10)
def bs0 (x:UInt32):UInt32:=rotr x 2 ^^^ rotr x 13 ^^^ rotr x 22
def bs1 (x:UInt32):UInt32:=rotr x 6 ^^^ rotr x 11 ^^^ rotr x 25
def ch (e f g:UInt32):UInt32:=g ^^^ (e &&& (f ^^^ g))
def maj (a b c:UInt32):UInt32:=(a &&& b) ||| (c &&& (a ||| b))
def nextW (w:List UInt32):UInt32:=
 w.getD (w.length - 16) 0 + w.getD (w.length - 7) 0 + sg1 (w.getD (w.length - 2) 0) + sg0 (w.getD (w.length - 15) 0)
def wordsTo (b:List UInt8):Nat→List UInt32
 | 0=>(List.range 16).map (word4 b)
 | n + 1=>wordsTo b n ++ [nextW (wordsTo b n)]
def wordsL (b:List UInt8):List UInt32:=wordsTo b 48
theorem wordsTo_len (b:List UInt8) (n:Nat):(wordsTo b n).length = 16 + n:=by
 induction n with
 | zero=>simp [wordsTo]
 | succ n ih=>simp [wordsTo,ih];omega
structure St where
 a:UInt32
 b:UInt32
 c:UInt32
 d:UInt32
 e:UInt32
 f:UInt32
 g:UInt32
 h:UInt32
def rnd (s:St) (k w:UInt32):St:=
 let x:=s.h + bs1 s.e + ch s.e s.f s.g + k + w
 let y:=bs0 s.a + maj s.a s.b s.c
 ⟨x + y,s.a,s.b,s.c,s.d + x,s.e,s.f,s.g⟩
def rndTo (s:St) (ws:List UInt32):Nat→St
 | 0=>s
 | n + 1=>rnd (rndTo s ws n) (shaK.getD n 0) (ws.getD n 0)
def St.plus (s t:St):St:=⟨s.a + t.a,s.b + t.b,s.c + t.c,s.d + t.d,s.e + t.e,s.f + t.f,s.g + t.g,s.h + t.h⟩
def takeL (s:St) (b:List UInt8):St:=s.plus (rndTo s (wordsL b) 64)
def St.list (s:St):List UInt32:=[s.a,s.b,s.c,s.d,s.e,s.f,s.g,s.h]
def st0:St:=⟨0x6a09e667,0xbb67ae85,0x3c6ef372,0xa54ff53a,0x510e527f,0x9b05688c,0x1f83d9ab,0x5be0cd19⟩
def chunksTo (m:List UInt8):Nat→St
 | 0=>st0
 | n + 1=>takeL (chunksTo m n) ((m.drop (64 * n)).take 64)
def zerosOf (n:Nat):Nat:=(119 - n % 64) % 64
def lenBytes (n:Nat):List UInt8:=(List.range 8).map fun i=>UInt8.ofNat (8 * n / 2 ^ (56 - 8 * i) % 256)
def padL (b:List UInt8):List UInt8:=b ++ [128] ++ List.replicate (zerosOf b.length) 0 ++ lenBytes b.length
def outB (s:St):List UInt8:=(List.range 32).map fun i=>UInt8.ofNat ((s.list.getD (i / 4) 0).toNat / 2 ^ (24 - 8 * (i % 4)) % 256)
def sumL (b:List UInt8):List UInt8:=outB (chunksTo (padL b) ((padL b).length / 64))
def pw (b:List UInt8):Nat→List UInt32
 | 0=>List.replicate 64 0
 | k + 1=>(pw b k).set (k / 4) ((pw b k).getD (k / 4) 0 ||| UInt32.ofNat ((b.getD k 0).toNat * 2 ^ (24 - 8 * (k % 4))))
theorem word_sum (a b c d:UInt8) :
  0 ||| UInt32.ofNat (a.toNat * 2 ^ 24) ||| UInt32.ofNat (b.toNat * 2 ^ 16) ||| UInt32.ofNat (c.toNat * 2 ^ 8) ||| UInt32.ofNat (d.toNat * 2 ^ 0) =
   UInt32.ofNat ((a.toNat * 16777216 + b.toNat * 65536 + c.toNat * 256 + d.toNat) % 4294967296):=by
 have ha:=a.toNat_lt
 have hb:=b.toNat_lt
 have hc:=c.toNat_lt
 have hd:=d.toNat_lt
 apply UInt32.toNat_inj.1
 simp only [UInt32.toNat_or,UInt32.toNat_ofNat',UInt32.toNat_zero,Nat.zero_or]
 rw [Nat.mod_eq_of_lt (show a.toNat * 2 ^ 24 < 2 ^ 32 by omega),Nat.mod_eq_of_lt (show b.toNat * 2 ^ 16 < 2 ^ 32 by omega),Nat.mod_eq_of_lt (show c.toNat * 2 ^ 8 < 2 ^ 32 by omega),Nat.mod_eq_of_lt (show d.toNat * 2 ^ 0 < 2 ^ 32 by omega)]
 rw [nat_join 24 (a.toNat * 2 ^ 24) (b.toNat * 2 ^ 16) (by omega) (by omega),nat_join 16 _ (c.toNat * 2 ^ 8) (by omega) (by omega),nat_join 8 _ (d.toNat * 2 ^ 0) (by omega) (by omega)]
 omega
theorem set_mid (L R:List UInt32) (x y:UInt32) (t:Nat) (h:L.length = t):(L ++ x :: R).set t y = L ++ y :: R:=by
 rw [List.set_append_right _ _ (by omega),h,Nat.sub_self,List.set_cons_zero]
theorem getD_mid (L R:List UInt32) (x:UInt32) (t:Nat) (h:L.length = t):(L ++ x :: R).getD t 0 = x:=by
 simp [List.getD_eq_getElem?_getD,h]
theorem pw_four (b:List UInt8) (t:Nat):t ≤ 16→pw b (4 * t) = (List.range t).map (word4 b) ++ List.replicate (64 - t) 0:=by
 induction t with
 | zero=>intro _;simp [pw]
 | succ t ih=>
  intro ht
  have ih:=ih (by omega)
  have hlen:((List.range t).map (word4 b)).length = t:=by simp
  rw [show 64 - t = (64 - (t + 1)) + 1 from by omega,List.replicate_succ] at ih
  have q0:(4 * t) / 4 = t:=by omega
  have q1:(4 * t + 1) / 4 = t:=by omega
  have q2:(4 * t + 2) / 4 = t:=by omega
  have q3:(4 * t + 3) / 4 = t:=by omega
  have m0:24 - 8 * ((4 * t) % 4) = 24:=by omega
  have m1:24 - 8 * ((4 * t + 1) % 4) = 16:=by omega
  have m2:24 - 8 * ((4 * t + 2) % 4) = 8:=by omega
  have m3:24 - 8 * ((4 * t + 3) % 4) = 0:=by omega
  rw [show 4 * (t + 1) = 4 * t + 3 + 1 from by omega,pw,show 4 * t + 3 = 4 * t + 2 + 1 from by omega,pw,show 4 * t + 2 = 4 * t + 1 + 1 from by omega,pw,pw,ih]
  simp only [show 4 * t + 1 + 1 + 1 = 4 * t + 3 from by omega,show 4 * t + 1 + 1 = 4 * t + 2 from by omega,q0,q1,q2,q3,m0,m1,m2,m3]
  simp only [set_mid _ _ _ _ _ hlen,getD_mid _ _ _ _ hlen]
  rw [word_sum,List.range_succ,List.map_append,List.append_assoc]
  rfl
theorem word4_take (l:List UInt8) (t:Nat) (h:t < 16):word4 (l.take 64) t = word4 l t:=by
 have e:∀ i,i < 64→(l.take 64).getD i 0 = l.getD i 0:=fun i hi=>by simp [List.getD_eq_getElem?_getD,hi]
 unfold word4
 rw [e _ (by omega),e _ (by omega),e _ (by omega),e _ (by omega)]
theorem wordsTo_take (l:List UInt8) (n:Nat):wordsTo (l.take 64) n = wordsTo l n:=by
 induction n with
 | zero=>exact List.map_congr_left fun t ht=>word4_take l t (List.mem_range.1 ht)
 | succ n ih=>rw [wordsTo,wordsTo,ih]
set_option maxRecDepth 100000 in
theorem turn_gen (x:UInt32) (k q r:Int) (n m:Nat) (w:World) (h:n + m = 32) (hk:-k = q) (hn:0 < k) (hk2:k < 32) (hq:bits BinOp.and IntKind.u64 (IntKind.u64.wrap q) 31 = (m:Int)) (hm:m < 32) (hnk:k = n) :
  Calls Tryz.prog 160 #[.int .u32 (w32 x),.int .i64 k] w fun e w'=>e = .returned (.int .u32 (w32 (rotr x n)))∧w = w':=by
 have H:=Lib.hid h
 have HK:=Lib.hid hnk
 have e1:bits BinOp.and IntKind.u64 (IntKind.u64.wrap (-k)) 31 = (m:Int):=by rw [hk];exact hq
 have e2:(32 - (m:Int)).toNat = n:=by omega
 have hm0:(0:Int) ≤ m:=by omega
 have hm1:(m:Int) ≤ 31:=by omega
 clear h hnk hk hq
 go_enter Tryz.func160,Tryz.ntmps160
 go_wp2
 go_ret
 refine ⟨?_,rfl⟩
 exact ret_int (w32_rot x n m H.out)
theorem turn2 (x:UInt32) (w:World):Calls Tryz.prog 160 #[.int .u32 (w32 x),.int .i64 2] w fun e w'=>e = .returned (.int .u32 (w32 (rotr x 2)))∧w = w':=
 turn_gen x 2 (-2) 30 2 30 w (by decide) (by decide) (by decide) (by decide) (by decide +kernel) (by decide) (by decide)
theorem turn13 (x:UInt32) (w:World):Calls Tryz.prog 160 #[.int .u32 (w32 x),.int .i64 13] w fun e w'=>e = .returned (.int .u32 (w32 (rotr x 13)))∧w = w':=
 turn_gen x 13 (-13) 19 13 19 w (by decide) (by decide) (by decide) (by decide) (by decide +kernel) (by decide) (by decide)
theorem turn22 (x:UInt32) (w:World):Calls Tryz.prog 160 #[.int .u32 (w32 x),.int .i64 22] w fun e w'=>e = .returned (.int .u32 (w32 (rotr x 22)))∧w = w':=
 turn_gen x 22 (-22) 10 22 10 w (by decide) (by decide) (by decide) (by decide) (by decide +kernel) (by decide) (by decide)
theorem turn7 (x:UInt32) (w:World):Calls Tryz.prog 160 #[.int .u32 (w32 x),.int .i64 7] w fun e w'=>e = .returned (.int .u32 (w32 (rotr x 7)))∧w = w':=
 turn_gen x 7 (-7) 25 7 25 w (by decide) (by decide) (by decide) (by decide) (by decide +kernel) (by decide) (by decide)
theorem turn18 (x:UInt32) (w:World):Calls Tryz.prog 160 #[.int .u32 (w32 x),.int .i64 18] w fun e w'=>e = .returned (.int .u32 (w32 (rotr x 18)))∧w = w':=
 turn_gen x 18 (-18) 14 18 14 w (by decide) (by decide) (by decide) (by decide) (by decide +kernel) (by decide) (by decide)
theorem turn17 (x:UInt32) (w:World):Calls Tryz.prog 160 #[.int .u32 (w32 x),.int .i64 17] w fun e w'=>e = .returned (.int .u32 (w32 (rotr x 17)))∧w = w':=
 turn_gen x 17 (-17) 15 17 15 w (by decide) (by decide) (by decide) (by decide) (by decide +kernel) (by decide) (by decide)
theorem turn19 (x:UInt32) (w:World):Calls Tryz.prog 160 #[.int .u32 (w32 x),.int .i64 19] w fun e w'=>e = .returned (.int .u32 (w32 (rotr x 19)))∧w = w':=
 turn_gen x 19 (-19) 13 19 13 w (by decide) (by decide) (by decide) (by decide) (by decide +kernel) (by decide) (by decide)
theorem turn_mask (k:Int) (h1:0 < k) (h2:k < 32):bits BinOp.and IntKind.u64 (IntKind.u64.wrap (-k)) 31 = ((32 - k.toNat:Nat):Int):=by
 have:∀ n:Fin 31,bits BinOp.and IntKind.u64 (IntKind.u64.wrap (-((n.val:Int) + 1))) 31 = ((32 - (n.val + 1):Nat):Int):=by decide +kernel
 have h:=this ⟨(k - 1).toNat,by omega⟩
 have e:(((k - 1).toNat:Nat):Int) + 1 = k:=by omega
 simp only [e] at h
 rw [h]
 congr 1
 omega
theorem turn_any (x:UInt32) (k:Int) (w:World) (h1:0 < k) (h2:k < 32):Calls Tryz.prog 160 #[.int .u32 (w32 x),.int .i64 k] w fun e w'=>e = .returned (.int .u32 (w32 (rotr x k.toNat)))∧w = w':=
 turn_gen x k (-k) 0 k.toNat (32 - k.toNat) w (by omega) rfl h1 h2 (turn_mask k h1 h2) (by omega) (by omega)
end Go.Proofs.YtnohglkilpnjhaaGreatDoor
