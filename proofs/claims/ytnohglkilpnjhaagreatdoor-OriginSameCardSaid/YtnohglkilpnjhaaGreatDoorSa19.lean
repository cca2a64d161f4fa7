/- Lemmas that the statement of this claim leans on; their own comments are taken out, for the size of the claim. No condition beyond what each lemma states. -/
import Derived.Test.YtnohglkilpnjhaaGreatDoorSa18
set_option linter.unusedVariables false
set_option linter.unusedSimpArgs false
set_option linter.unusedSectionVars false
namespace Go.Proofs.YtnohglkilpnjhaaGreatDoor
open Go.RowKit
set_option maxRecDepth 100000
theorem build_peer2 (a c:Int) (x:Bool) (W:World):(Instr.build 137 #[(0,.int .i64 a),(1,.int .i64 c),(2,.bool x)]).run Tryz.prog W = .ok (.agg #[.int .i64 a,.int .i64 c,.bool x]) W:=by kernel_rfl
structure RAnn (w:World) (r:Nat) (many most:Int) (B:Nat) (v:Value) (d:List UInt8) (T:TabL) (i:Nat) (ps:List PeerL) (W:World) (v1:Value) (L1:RefL) (T1:TabL):Prop where
 st:RSt w r many most B v W v1 L1 T1
 at_:T1[i]? = some (d,ps)
 ins:∀ q,T1.set i (d,q) = insK kD (d,q) T
theorem RAnn.new {w r many most B v d T i ps W W' v1 L1 T1} (h:RAnn w r many most B v d T i ps W v1 L1 T1) (hb:Below W.heap.size W W'):RAnn w r many most B v d T i ps W' v1 L1 T1:=⟨h.st.new hb,h.at_,h.ins⟩
theorem RAnn.set {w r many most B v d T i ps q W g1 n1 c1 L1 T1 u0 u} (h:RAnn w r many most B v d T i ps W (.slice (some ⟨g1,0,none⟩) n1 c1) L1 T1) (hi:L1[i]? = some (d,u0)) (hu:RPeer.Own W B u q) :
  RAnn w r many most B v d T i q (W.setCell ⟨g1,i * 33 + 32,none⟩ u) (.slice (some ⟨g1,0,none⟩) n1 c1) (L1.set i (d,u)) (T1.set i (d,q)):=
 ⟨h.st.set hi h.at_ hu,by rw [List.getElem?_set_self (List.getElem?_eq_some_iff.1 h.at_).1],fun p=>by rw [List.set_set];exact h.ins p⟩
theorem ins_get {α:Type} {l:List α} {i:Nat} (h:i ≤ l.length) (x:α) (j:Nat):(l.take i ++ x :: l.drop i)[j]? = if j < i then l[j]? else if j = i then some x else l[j - 1]?:=by
 rw [List.getElem?_append]
 have e:(l.take i).length = i:=by simp;omega
 rw [e]
 by_cases hj:j < i
 ·rw [if_pos hj,if_pos hj,List.getElem?_take,if_pos hj]
 ·rw [if_neg hj,if_neg hj]
  by_cases hj2:j = i
  ·rw [if_pos hj2,hj2];simp
  ·rw [if_neg hj2]
   obtain ⟨m,hm⟩:∃ m,j - i = m + 1:=⟨j - i - 1,by omega⟩
   rw [hm,List.getElem?_cons_succ,List.getElem?_drop]
   congr 1;omega
set_option maxHeartbeats 6400000 in
theorem RAnnounce_any (r:Nat) (many most:Int) (B:Nat) (v:Value) (L:RefL) (T:TabL) (d:List UInt8) (id now life:Int) (seed:Bool) (w:World) (hR:RTabP w r many most B v L T) (hT:TabOk many most T) (hm:1 ≤ many∧many ≤ 1000) (he:1 ≤ most∧most ≤ 64) (h32:d.length = 32) :
  Calls Tryz.prog 99 #[.pointer (some ⟨r,0,none⟩),.agg (d.map B8).toArray,.int .i64 id,.int .i64 now,.int .i64 life,.bool seed] w
   (RPost w r many most B v (annT many most T d id now life seed).1 (.int .i64 (annT many most T d id now life seed).2)):=by
 obtain ⟨W,hW⟩:∃ W,w.alloc (.cells (d.map B8).toArray 31) = W:=⟨_,rfl⟩
 have ho:DigO W w.heap.size d:=by rw [← hW];exact digO_new w h32
 have hb:Below w.heap.size w W:=by rw [← hW];exact (Below.refl _ w).alloc (Nat.le_refl _) _
 have HW:=Lib.hid hW
 have HO:=Lib.hid ho
 have HB:=Lib.hid hb
 have HR:=Lib.hid hR
 have HT:=Lib.hid hT
 have H32:=Lib.hid h32
 have hst0:RSt w r many most B v W v L T:=(RSt.start hR).new hb
 have HST0:=Lib.hid hst0
 clear hR hT hW ho hb hst0 h32
 by_cases hargs:argsB id now life = true
 case neg=>
  have hargs2:argsB id now life = false:=by simpa using hargs
  have hann:annT many most T d id now life seed = (T,1):=by unfold annT;rw [if_neg hargs]
  rw [hann]
  have hor:within id 1 65536 = false∨(within id 1 65536 = true∧within now 0 1099511627776 = false)∨(within id 1 65536 = true∧within now 0 1099511627776 = true∧within life 1 1048576 = false):=by
   have h:(within id 1 65536 && (within now 0 1099511627776 && within life 1 1048576)) = false:=hargs2
   cases h1:within id 1 65536 <;> cases h2:within now 0 1099511627776 <;> cases h3:within life 1 1048576 <;> simp_all
  clear hargs hargs2 hann
  rcases hor with h1 | ⟨h1,h2⟩ | ⟨h1,h2,h3⟩
  all_goals
   go_enter Tryz.func99,Tryz.ntmps99
   go_upto_region 1 with (fail)
   rw [HW.out]
   go_wp2_with (first
    | (go_at_call 87;refine (RIsId_any _ _).mono ?_;rintro e w1 ⟨rfl,rfl⟩)
    | (go_at_call 97;refine (RIsMoment_any _ _).mono ?_;rintro e w1 ⟨rfl,rfl⟩)
    | (go_at_call 59;refine (RIsLife_any _ _).mono ?_;rintro e w1 ⟨rfl,rfl⟩))
   all_goals
    go_ret
    exact ⟨v,L,rfl,HST0.out.tab,HST0.out.step⟩
 have hA:=hargs
 simp only [argsB,Bool.and_eq_true,decide_eq_true_eq] at hA
 have c1:within id 1 65536 = true:=decide_eq_true hA.1
 have c2:within now 0 1099511627776 = true:=decide_eq_true hA.2.1
 have c3:within life 1 1048576 = true:=decide_eq_true hA.2.2
 have hann:annT many most T d id now life seed = (roomT many (insK kD (d,roomP most (withP id (now + life) seed (peersT d T))) T),0):=by unfold annT;rw [if_pos hargs]
 rw [hann]
 have HANN:=Lib.hid hargs
 clear hann hargs
 have hTl:T.length ≤ 1000:=by have:=HT.out.few;omega
 have HTL:=Lib.hid hTl
 clear hTl
 go_enter Tryz.func99,Tryz.ntmps99
 go_upto_region 1 with (fail)
 rw [HW.out]
 obtain ⟨g,hg⟩:∃ g,w.heap.size = g:=⟨_,rfl⟩
 have HG:=Lib.hid hg
 rw [hg] at HO ⊢
 clear hg
 go_upto_region 7 with (first
  | (go_at_call 87;refine (RIsId_any _ _).mono ?_;rintro e w1 ⟨rfl,rfl⟩)
  | (go_at_call 97;refine (RIsMoment_any _ _).mono ?_;rintro e w1 ⟨rfl,rfl⟩)
  | (go_at_call 59;refine (RIsLife_any _ _).mono ?_;rintro e w1 ⟨rfl,rfl⟩)
  | ((with_reducible refine wpList_plain (o:=⟨some 39,Op.load _ _,_,_,_,_⟩) rfl fun K hK=>?_);(refine wp_load_at (ty:=31) (x:=.tmp 7) rfl rfl HO.out.at_ (hK _ _ ?_)))
  | (go_at_call 65;refine (RPlace_any r many most B v L T d _ HST0.out.tab HT.out.rise HT.out.dig (by have:=HTL.out;omega) H32.out).mono ?_;rintro e w2 ⟨i,is,rfl,hpl,hb2⟩;have HPL:=Lib.hid hpl;have HST2:=Lib.hid (HST0.out.new hb2);have HO2:=Lib.hid (HO.out.of_new hb2);clear hpl hb2))
 have hps0:=(peersT_ok HT.out he.1 d).1
 have hps1:=(peersT_ok HT.out he.1 d).2
 obtain ⟨ps,hps⟩:∃ ps,peersT d T = ps:=⟨_,rfl⟩
 rw [hps] at hps0 hps1
 have HPS:=Lib.hid hps
 have HPS0:=Lib.hid hps0
 have hpl64:ps.length ≤ 64:=by omega
 have HPS1:=Lib.hid hpl64
 clear hps hps0 hps1 hpl64
 have hii:i ≤ T.length:=HPL.out.le
 cases is
 case' true=>
  obtain ⟨ps',h1,h2,h3,_,_⟩:=HPL.out.is HT.out.rise
  obtain rfl:ps = ps':=by rw [← HPS.out,h2]
  have hrn:RAnn w r many most B v d T i ps w2 v L T:=⟨HST2.out,h1,fun q=>(h3 q).symm⟩
  obtain ⟨w3,hw3⟩:∃ w3,w2 = w3:=⟨_,rfl⟩
  rw [hw3] at hrn ⊢
  obtain ⟨v1,L1x,T1,hrn⟩:∃ v1 L1 T1,RAnn w r many most B v d T i ps w3 v1 L1 T1:=⟨_,_,_,hrn⟩
  have HRN:=Lib.hid hrn
  clear h1 h2 h3 hrn hw3 hii
  go_upto_region 11 with (fail)
 case' false=>
  obtain ⟨h1,h2,_⟩:=HPL.out.not HT.out.rise
  have HPE:=Lib.hid (show ps = [] by rw [← HPS.out,h1])
  have hLT:=HST2.out.tab.len
  have hl:=HST2.out.tab.own.row
  obtain ⟨s1,hs1,hr1,_⟩:=hl.part Tryz.underlying142 .none (some (.int .i64 (i:Int))) 0 i (Nat.zero_le _) (by omega) (.inl ⟨rfl,rfl⟩) (.inr ⟨_,rfl⟩)
  obtain ⟨s2,hs2,hr2,_⟩:=hl.part Tryz.underlying142 (some (.int .i64 (i:Int))) .none i L.length (by omega) (Nat.le_refl _) (.inr ⟨_,rfl⟩) (.inl ⟨rfl,rfl⟩)
  rw [List.drop_zero,Nat.sub_zero] at hr1
  rw [List.take_of_length_le (by simp)] at hr2
  have HR1:=Lib.hid hr1
  have HR2:=Lib.hid hr2
  have HLT:=Lib.hid hLT
  have HINS:=Lib.hid h2
  have HII:=Lib.hid hii
  have hol:L.length ≤ 1000:=by have:=HTL.out;omega
  have HOL:=Lib.hid hol
  clear h1 h2 hLT hl hr1 hr2 hii hol
  go_upto_region 9 with (first
   | ((with_reducible refine wpList_plain (o:=⟨some 45,Op.buildSlice _ _ _,_,_,_,_⟩) rfl fun K hK=>?_);(refine ROf.wp_build0 Tryz.underlying142 rfl fun w3 ho3 hb3 hs3=>hK _ _ ?_);have HO3:=Lib.hid ho3;have HB3:=Lib.hid hb3;have c3:=(HST2.out.new hb3).tab.cell2;clear ho3 hb3 hs3)
   | ((with_reducible refine wpList_plain (o:=⟨some 52,Op.call _,_,_,_,_⟩) rfl fun K hK=>?_);(refine HO3.out.app Tryz.underlying142 (.tmp 45) (.tmp 51) rfl rfl rfl (HR1.out.of_new HB3.out) (by have:=HOL.out;simp;omega) HB3.out.size fun v4 w4 ho4 hg4 hu4=>hK _ _ ?_);have HO4:=Lib.hid ho4;have HB4:=Lib.hid (HB3.out.grown hg4 HB3.out.size (fun k e=>by cases e;exact Nat.le_refl _));clear ho4 hg4 hu4))
  have ho4:=HO4.out
  rw [List.nil_append] at ho4
  obtain ⟨LA,hLA⟩:∃ LA,L.take i = LA:=⟨_,rfl⟩
  rw [hLA] at ho4
  have HLA:=Lib.hid hLA
  obtain ⟨a4,n4,hv4⟩:=ho4.row.len
  subst hv4
  have hLAl:LA.length ≤ 1000:=by rw [← hLA,List.length_take];have:=HOL.out;omega
  have HLAL:=Lib.hid hLAl
  have HO4':=Lib.hid ho4
  have HOD:=Lib.hid (HO2.out.of_new HB4.out)
  clear HO3 HO4 ho4 hLA c3 HB3 hLAl
  go_upto_region 10 with (first
   | ((with_reducible refine wpList_plain (o:=⟨some 54,Op.load _ _,_,_,_,_⟩) rfl fun K hK=>?_);(refine wp_load_at (ty:=31) (x:=.tmp 7) rfl rfl HOD.out.at_ (hK _ _ ?_)))
   | ((with_reducible refine wpList_plain (o:=⟨some 55,Op.build _ _,_,_,_,_⟩) rfl fun K hK=>?_);(refine wp_build_of1 d rfl rfl H32.out (hK _ _ ?_)))
   | ((with_reducible refine wpList_plain (o:=⟨some 56,Op.buildSlice _ _ _,_,_,_,_⟩) rfl fun K hK=>?_);(refine ROf.wp_build1 Tryz.underlying142 (.tmp 55) (x:=(d,.slice none 0 0)) ⟨H32.out,rfl⟩ rfl rfl fun w5 ho5 hb5 hs5=>hK _ _ ?_);have HO5:=Lib.hid ho5.row;have HB5:=Lib.hid hb5;clear ho5 hb5 hs5)
   | ((with_reducible refine wpList_plain (o:=⟨some 57,Op.call _,_,_,_,_⟩) rfl fun K hK=>?_);(refine (HO4'.out.of_new HB5.out).app Tryz.underlying142 (.tmp 53) (.tmp 56) rfl rfl rfl HO5.out (by have:=HLAL.out;simp;omega) (by have:=HB4.out.size;have:=HB5.out.size;omega) fun v6 w6 ho6 hg6 hu6=>hK _ _ ?_);have HO6:=Lib.hid ho6;have HB6:=Lib.hid ((below_next HB4.out HB5.out).grown hg6 (by have:=HB4.out.size;have:=HB5.out.size;omega) (fun k e=>(HO4'.out.lt k e).1));clear ho6 hg6 hu6))
  obtain ⟨a6,n6,hv6⟩:=HO6.out.row.len
  subst hv6
  have c6:=(HST2.out.new HB6.out).tab.cell2
  obtain ⟨LB,hLB⟩:∃ LB,LA ++ [(d,Value.slice none 0 0)] = LB:=⟨_,rfl⟩
  rw [hLB] at HO6 ⊢
  have HLB:=Lib.hid hLB
  have HLBL:=Lib.hid (show LB.length ≤ 1001 by rw [← hLB];have:=HLAL.out;simp;omega)
  clear hLB HO5 HB5 HO4' HOD
  go_upto_region 11 with (first
   | ((with_reducible refine wpList_plain (o:=⟨some 66,Op.call _,_,_,_,_⟩) rfl fun K hK=>?_);(refine HO6.out.app Tryz.underlying142 (.tmp 59) (.tmp 65) rfl rfl rfl (HR2.out.of_new HB6.out) (by have:=HLBL.out;have:=HOL.out;simp;omega) HB6.out.size fun v7 w7 ho7 hg7 hu7=>hK _ _ ?_);obtain ⟨L1,hL1⟩:∃ L1,LB ++ L.drop i = L1:=⟨_,rfl⟩;rw [hL1] at ho7;have HL1:=Lib.hid hL1;have HO7:=Lib.hid ho7;have HB7:=Lib.hid (HB6.out.grown hg7 HB6.out.size (fun k e=>(HO6.out.lt k e).1));obtain ⟨a7,n7,hv7⟩:=ho7.row.len;subst hv7;have c7:=(HST2.out.new HB7.out).tab.cell2;have f7:=(HST2.out.new HB7.out).tab.free 2;clear hL1 ho7 hg7 hu7))
  generalize hW3:World.setCell w7 _ _ = w3
  have hrn:∃ v1 L1 T1,RAnn w r many most B v d T i ps w3 v1 L1 T1:=by
   rw [HPE.out]
   have hll:L1 = L.take i ++ (d,Value.slice none 0 0) :: L.drop i:=by rw [← HL1.out,← HLB.out,← HLA.out];simp
   have hki:(L.take i).map (·.1) = (T.take i).map (·.1):=by rw [List.map_take,List.map_take,HST2.out.tab.keys]
   have hkd:(L.drop i).map (·.1) = (T.drop i).map (·.1):=by rw [List.map_drop,List.map_drop,HST2.out.tab.keys]
   have h1:=HST2.out.put (L2:=L1) (T2:=T.take i ++ (d,[]) :: T.drop i) HB7.out HO7.out (by rw [hll,List.map_append,List.map_append,List.map_cons,List.map_cons,hki,hkd]) (fun j x y hx hy=>by
    rw [hll,ins_get (by rw [HLT.out];exact HII.out)] at hx
    rw [ins_get HII.out] at hy
    have hB:=(HST2.out.tab.of_new HB7.out).rows
    split at hx
    ·rename_i hj;rw [if_pos hj] at hy;exact hB j x y hx hy
    ·rename_i hj
     rw [if_neg hj] at hy
     split at hx
     ·rename_i hj2
      rw [if_pos hj2] at hy
      cases hx;cases hy
      exact RecT.Own.nil _ _
     ·rename_i hj2;rw [if_neg hj2] at hy;exact hB (j - 1) x y hx hy)
   rw [hW3] at h1
   have hlt:i < (T.take i ++ (d,([]:List PeerL)) :: T.drop i).length:=by have:=HII.out;simp;omega
   refine ⟨_,_,_,h1,?_,fun q=>?_⟩
   ·rw [ins_get HII.out,if_neg (Nat.lt_irrefl _),if_pos rfl]
   ·rw [HINS.out q]
    have e:(T.take i).length = i:=by have:=HII.out;simp;omega
    rw [List.set_append_right _ _ (by omega),e,Nat.sub_self]
    rfl
  obtain ⟨v1,L1x,T1,hrn⟩:=hrn
  have HRN:=Lib.hid hrn
  clear hW3 c7 f7 HO7 HL1 hrn HO6 hs1 hs2
 all_goals
  obtain ⟨u0,hu0,hrow0⟩:=HRN.out.st.tab.val HRN.out.at_
  have hT1:i < T1.length:=(List.getElem?_eq_some_iff.1 HRN.out.at_).1
  have hT1l:T1.length ≤ 1001:=by
   have h1:=congrArg List.length (HRN.out.ins [])
   rw [List.length_set,insK_len HT.out.rise] at h1
   have h2:=HTL.out
   split at h1 <;> omega
  obtain ⟨g1,cp,hv1,hBg,hg1,hgr,hfz,hat⟩:=HRN.out.st.tab.form (by omega)
  subst hv1
  obtain ⟨n1,hn1⟩:∃ n1,T1.length = n1:=⟨_,rfl⟩
  rw [hn1] at HRN hT1 hT1l
  have hcu0:=ROf_val (hat i _ hu0)
  dsimp only at hcu0
  obtain ⟨a0,k0,hv0⟩:=hrow0.row.len
  subst hv0
  have hin:(i:Int) < (n1:Int):=by omega
  have hc2:=fun w' (h:Grew w3 w')=>Grew.cell h HRN.out.st.tab.cell2
  have hcu:=fun w' (h:Grew w3 w')=>Grew.cell h hcu0
  have hsum:IntKind.i64.wrap (now + life) = now + life:=by rw [IntKind.wrap_i64];omega
  have hbp:=build_peer2 id (now + life) seed
  have hfzi:=hfz (i * 33 + 32)
  have HN1:=Lib.hid hn1
  have HROW0:=Lib.hid hrow0
  have HU0:=Lib.hid hu0
  have HFZ:=Lib.hid hfzi
  have HT1L:=Lib.hid hT1l
  have HGL:=Lib.hid hg1
  have HGR:=Lib.hid hgr
  have HBG:=Lib.hid hBg
  have htill:0 ≤ now + life:=by omega
  clear hn1 hrow0 hu0 hat hcu0 hg1 hgr hBg hfz hfzi hT1 hT1l
  refine (wpIn_wide (n:=5)).1 ?_
  refine wpIn_region_mix (ro:=none) (C:=Grew w3) [0,1,2,3,4,5,6,7,8,9,10,11,12,13,14,15,16,17,18] [19] [20,21,22] (by kernel_rfl) (by kernel_rfl) (Grew.start _) (fun c a d v w h=>by cases d <;> exact h) ?_
  simp only [opsAt,List.flatMap_cons,List.flatMap_nil,List.getElem?_cons_zero,List.getElem?_cons_succ,Option.toList_some,List.cons_append,List.nil_append]
  go_simp
  repeat (first
   | (go_big_quiet_want;apply quiet_val;(intro w' hw';go_simp;first | done | rfl);go_simp;go_big_quiet_on)
   | (go_big_quiet_skip))
  refine wpQuiet_nil ?_
  intro w5 hw5
  refine LateL.cons rfl (wp_enter (f:=149) (args:=#[.slice a0 ps.length k0,RPeer.V ⟨id,now + life,seed⟩]) (by go_simp <;> rfl) (RWith_any _ ps ⟨id,now + life,seed⟩ w5 (HROW0.out.row.of_new hw5) HPS0.out.rise (by have:=HPS1.out;omega)) ?_)
  rintro e w6 ⟨v6,rfl,ho6,hb6⟩
  have hw6:Grew w3 w6:=below_next hw5 hb6
  refine ⟨v6,rfl,hw6,?_⟩
  refine LateL.nil ?_
  rw [wF_none]
  rw [mergeP_old HPS0.out.rise htill] at ho6
  replace ho6:RPeer.Own w6 w5.heap.size v6 (withP id (now + life) seed ps):=ho6
  have hqok:=HPS0.out.withP (id:=id) (till:=now + life) seed hA.1 (by omega)
  have hql:=withP_len (id:=id) (till:=now + life) (seed:=seed) HPS0.out
  have hqne:=withP_ne (id:=id) (till:=now + life) (seed:=seed) HPS0.out
  obtain ⟨q,hq⟩:∃ q,withP id (now + life) seed ps = q:=⟨_,rfl⟩
  rw [hq] at ho6 hqok hql hqne
  obtain ⟨a6,k6,hv6⟩:=ho6.row.len
  subst hv6
  have hcu6:=hcu w6 hw6
  have hfz6:w6.frozen? ⟨g1,i * 33 + 32,none⟩ = false:=by
   obtain ⟨cur,hcur⟩:=(HRN.out.new hw6).st.tab.own.block (k:=g1) rfl
   simp [World.frozen?,hcur]
  have hrn7:=(HRN.out.new hw6).set (q:=q) HU0.out (ho6.mono (base':=B) (by have:=HBG.out;have:=HGL.out;have:=hw5.size;omega))
  have HRN7:=Lib.hid hrn7
  have HQ:=Lib.hid hq
  have HQOK:=Lib.hid hqok
  have HQNE:=Lib.hid hqne
  have hq65:q.length ≤ 65:=by have:=HPS1.out;omega
  have HQL:=Lib.hid hq65
  clear hw5 hb6 ho6 hw6 hrn7 hq hqok hql hqne hq65 hc2 hcu hbp hsum
  gi_wp2
  generalize hW7:World.setCell w6 _ _ = w7
  rw [hW7] at HRN7
  obtain ⟨L7,hL7⟩:∃ L7,L1x.set i (d,Value.slice a6 q.length k6) = L7:=⟨_,rfl⟩
  obtain ⟨T7,hT7⟩:∃ T7,T1.set i (d,q) = T7:=⟨_,rfl⟩
  rw [hL7,hT7] at HRN7
  clear hW7 hL7 hT7 hcu6 hfz6 HU0 HROW0
  obtain ⟨a7,k7,hu7,hrow7,hcell7,hfz7,hin7,hn7⟩:=HRN7.out.st.tab.entry HRN7.out.at_
  have HU7:=Lib.hid hu7
  have HROW7:=Lib.hid hrow7
  have HN7:=Lib.hid hn7
  have hc1:=fun w' (h:Grew w7 w')=>Grew.cell h HRN7.out.st.tab.cell1
  have hc2:=fun w' (h:Grew w7 w')=>Grew.cell h HRN7.out.st.tab.cell2
  have hcu:=fun w' (h:Grew w7 w')=>Grew.cell h hcell7
  clear hu7 hrow7 hcell7 hfz7 hn7
  go_upto_region 12 with (fail)
  by_cases hbig:most < (q.length:Int)
  case' pos=>
   refine wp_region_grew (by kernel_rfl) (by kernel_rfl) ?_
   repeat (first
    | (go_big_quiet_want;(with_reducible apply quiet_load_at (ty:=31) (x:=.tmp _));rfl;rfl;assumption;go_simp;go_big_quiet_on)
    | (go_big_quiet_want;apply quiet_val;(intro w' hw';go_simp;first | done | rfl);go_simp;go_big_quiet_on)
    | (go_big_quiet_skip))
   refine wpQuiet_nil ?_
   intro w8 hw8
   have HRN8:=Lib.hid (HRN7.out.new hw8)
   have HROW8:=Lib.hid (HROW7.out.of_new hw8)
   have hc2':=fun w' (h:Grew w8 w')=>hc2 w' (below_next hw8 h)
   have hcu':=fun w' (h:Grew w8 w')=>hcu w' (below_next hw8 h)
   have hroom:∀ a,AtP q q.length a→q.take a ++ q.drop (a + 1) = roomP most q:=fun a ha=>by
    rw [ha.cut HQOK.out.rise];unfold roomP;rw [if_pos hbig]
   have HROOM:=Lib.hid hroom
   have hq0:0 < q.length:=List.length_pos_iff.2 HQNE.out
   have HQ0:=Lib.hid hq0
   clear hw8 hc1 hc2 hcu hroom hq0 hbig
   go_upto_region 13 with (fail)
   refine (wpIn_wide (n:=5)).1 ?_
   refine wpIn_region_mix (ro:=none) (C:=Grew w8) [0,1,2,3,4,5,6,7,8,9,10,11,12,13,14,15,16,17,18,19,20] [21,22] [23,24,25] (by kernel_rfl) (by kernel_rfl) (Grew.start _) (fun c a d v w h=>by cases d <;> exact h) ?_
   simp only [opsAt,List.flatMap_cons,List.flatMap_nil,List.getElem?_cons_zero,List.getElem?_cons_succ,Option.toList_some,List.cons_append,List.nil_append]
   go_simp
   repeat (first
    | (go_big_quiet_want;apply quiet_val;(intro w' hw';go_simp;first | done | rfl);go_simp;go_big_quiet_on)
    | (go_big_quiet_skip))
   refine wpQuiet_nil ?_
   intro w9 hw9
   refine LateL.cons rfl (wp_enter (f:=151) (args:=#[.slice a7 q.length k7]) (by go_simp <;> rfl) (RFirst_any _ q w9 (HROW8.out.row.of_new hw9) HQ0.out) ?_)
   rintro e w10 ⟨fa,rfl,hfa,hb10⟩
   have hw10:Grew w8 w10:=below_next hw9 hb10
   refine ⟨_,rfl,hw10,?_⟩
   refine LateL.cons rfl (wp_enter (f:=150) (args:=#[.slice a7 q.length k7,.int .i64 (fa:Int)]) (by go_simp <;> rfl) (RCutPeer_any _ q fa w10 (HROW8.out.row.of_new hw10) hfa.1 (by have:=HQL.out;omega)) ?_)
   rintro e w11 ⟨v11,rfl,ho11,hb11⟩
   have hw11:Grew w8 w11:=below_next hw10 hb11
   refine ⟨_,rfl,hw11,?_⟩
   refine LateL.nil ?_
   rw [wF_none]
   rw [HROOM.out fa hfa] at ho11
   obtain ⟨p',hp'⟩:∃ p',roomP most q = p':=⟨_,rfl⟩
   rw [hp'] at ho11
   obtain ⟨a11,k11,hv11⟩:=ho11.row.len
   subst hv11
   have hcu11:=hcu' w11 hw11
   obtain ⟨-, -, -, -, -,hfz11, -, -⟩:=(HRN8.out.new hw11).st.tab.entry HRN8.out.at_
   have hrn12:=(HRN8.out.new hw11).set (q:=p') HU7.out (ho11.mono (base':=B) (by have:=(HRN8.out.new hw10).st.tab.base;have:=(HRN8.out.new hw10).st.tab.lt;omega))
   have HRNZ:=Lib.hid hrn12
   have HPZ:=Lib.hid hp'
   clear hw9 hfa hb10 hw10 ho11 hb11 hw11 hp' hrn12 hc2' hcu'
   gi_wp2
   generalize hW12:World.setCell w11 _ _ = wz
   rw [hW12] at HRNZ
   obtain ⟨LZ,hLZ⟩:∃ LZ,L7.set i (d,Value.slice a11 p'.length k11) = LZ:=⟨_,rfl⟩
   obtain ⟨TZ,hTZ⟩:∃ TZ,T7.set i (d,p') = TZ:=⟨_,rfl⟩
   rw [hLZ,hTZ] at HRNZ
   clear hW12 hLZ hTZ hcu11 hfz11
   go_upto_region 14 with (fail)
  case' neg=>
   refine wp_region_grew (by kernel_rfl) (by kernel_rfl) ?_
   repeat (first
    | (go_big_quiet_want;(with_reducible apply quiet_load_at (ty:=31) (x:=.tmp _));rfl;rfl;assumption;go_simp;go_big_quiet_on)
    | (go_big_quiet_want;apply quiet_val;(intro w' hw';go_simp;first | done | rfl);go_simp;go_big_quiet_on)
    | (go_big_quiet_skip))
   refine wpQuiet_nil ?_
   intro wz hwz
   have HRNZ:=Lib.hid (HRN7.out.new hwz)
   obtain ⟨p',hp'⟩:∃ p',roomP most q = p':=⟨_,rfl⟩
   have hqp:q = p':=by rw [← hp'];unfold roomP;rw [if_neg hbig]
   have HPZ:=Lib.hid hp'
   rw [hqp] at HRNZ
   obtain ⟨LZ,hLZ⟩:∃ LZ,L7 = LZ:=⟨_,rfl⟩
   obtain ⟨TZ,hTZ⟩:∃ TZ,T7 = TZ:=⟨_,rfl⟩
   rw [hLZ,hTZ] at HRNZ
   clear hwz hc1 hc2 hcu hp' hqp hbig hLZ hTZ
   go_upto_region 14 with (fail)
  all_goals
   have htz:TZ = insK kD (d,p') T:=by rw [← HRNZ.out.ins p'];exact (set_same HRNZ.out.at_).symm
   have hrz:Rising kD TZ:=by rw [htz];exact HT.out.rise.ins _
   have hres:roomT many (insK kD (d,roomP most (withP id (now + life) seed (peersT d T))) T) = if many < (TZ.length:Int) then delK kD (kD (firstT TZ)) TZ else TZ:=by
    rw [HPS.out,HQ.out,HPZ.out,← htz];rfl
   have HRES:=Lib.hid hres
   have HRZ:=Lib.hid hrz
   have hnz:n1 = TZ.length:=by
    obtain ⟨_,_,_,_,_,_,_,h⟩:=HRNZ.out.st.tab.entry HRNZ.out.at_
    exact h
   have HNZ:=Lib.hid hnz
   have hn1b:n1 ≤ 1001:=HT1L.out
   have hc0:=fun w' (h:Grew wz w')=>Grew.cell h HRNZ.out.st.tab.cell0
   have hc2:=fun w' (h:Grew wz w')=>Grew.cell h HRNZ.out.st.tab.cell2
   clear htz hres hrz hnz
   by_cases hmany:many < (n1:Int)
   case neg=>
    refine wp_region_grew (by kernel_rfl) (by kernel_rfl) ?_
    repeat (first
     | (go_big_quiet_want;(with_reducible apply quiet_load_at (ty:=31) (x:=.tmp _));rfl;rfl;assumption;go_simp;go_big_quiet_on)
     | (go_big_quiet_want;apply quiet_val;(intro w' hw';go_simp;first | done | rfl);go_simp;go_big_quiet_on)
     | (go_big_quiet_skip))
    refine wpQuiet_nil ?_
    intro w20 hw20
    have HRF:=Lib.hid (HRNZ.out.new hw20)
    have hfin:roomT many (insK kD (d,roomP most (withP id (now + life) seed (peersT d T))) T) = TZ:=by rw [HRES.out,if_neg (by rw [← HNZ.out];exact hmany)]
    have HFIN:=Lib.hid hfin
    clear hw20 hc0 hc2 hfin
    go_wp2
    go_ret
    exact ⟨_,_,rfl,by rw [HFIN.out];exact HRF.out.st.tab,HRF.out.st.step⟩
   have hfin:roomT many (insK kD (d,roomP most (withP id (now + life) seed (peersT d T))) T) = delK kD (kD (firstT TZ)) TZ:=by rw [HRES.out,if_pos (by rw [← HNZ.out];exact hmany)]
   have HFIN:=Lib.hid hfin
   clear hfin
   refine wp_region_grew (by kernel_rfl) (by kernel_rfl) ?_
   repeat (first
    | (go_big_quiet_want;(with_reducible apply quiet_load_at (ty:=31) (x:=.tmp _));rfl;rfl;assumption;go_simp;go_big_quiet_on)
    | (go_big_quiet_want;apply quiet_val;(intro w' hw';go_simp;first | done | rfl);go_simp;go_big_quiet_on)
    | (go_big_quiet_skip))
   refine wpQuiet_nil ?_
   intro w20 hw20
   have HRF:=Lib.hid (HRNZ.out.new hw20)
   clear hw20 hc0 hc2
   go_wp2
   clear hmany
   go_loopw [19,20] (fun av kv W'=>∃ k a:Nat,kv = .int .i64 (k:Int)∧av = .int .i64 (a:Int)∧AtT TZ k a∧Below w20.heap.size w20 W') (fun _ kv _=>n1 - (intOf kv).toNat)
   case atStart=>exact ⟨1,0,rfl,rfl,AtT.start (by have:=HNZ.out;omega),Below.refl _ _⟩
   case round=>
    rename World=>w21
    obtain ⟨k,fa,rfl,rfl,hat,hb21⟩:=hrel
    have hak:=hat.1
    have hkn:k ≤ n1:=by rw [HNZ.out];exact hat.2.1
    have hR21:=HRF.out.new hb21
    have c2':=hR21.st.tab.cell2
    by_cases hlt:k < n1
    ·have hki:(k:Int) < (n1:Int):=by omega
     have hai:(fa:Int) < (n1:Int):=by omega
     have hain:fa < n1:=by omega
     obtain ⟨⟨yd,yp⟩,hy⟩:∃ y,TZ[k]? = some y:=⟨_,List.getElem?_eq_getElem (by rw [← HNZ.out];exact hlt)⟩
     obtain ⟨⟨xd,xp⟩,hx⟩:∃ y,TZ[fa]? = some y:=⟨_,List.getElem?_eq_getElem (by rw [← HNZ.out];omega)⟩
     obtain ⟨ay,ky, -,hrowy,hcy, -, -, -⟩:=hR21.st.tab.entry hy
     obtain ⟨ax,kx, -,hrowx,hcx, -, -, -⟩:=hR21.st.tab.entry hx
     have hst:=hat.step HRZ.out hx hy
     dsimp only at hst
     have hc2:=fun w' (h:Grew w21 w')=>Grew.cell h c2'
     have hcy2:=fun w' (h:Grew w21 w')=>Grew.cell h hcy
     have hcx2:=fun w' (h:Grew w21 w')=>Grew.cell h hcx
     have HLY:=Lib.hid (fun w' (h:Grew w21 w')=>hrowy.row.of_new h)
     have HLX:=Lib.hid (fun w' (h:Grew w21 w')=>hrowx.row.of_new h)
     have HST:=Lib.hid hst
     have HB21:=Lib.hid hb21
     clear hy hx hrowy hrowx hcy hcx hst hat hb21 hR21
     go_upto_region 19 with (fail)
     clear c2'
     refine wp_region_grew (by kernel_rfl) (by kernel_rfl) ?_
     repeat (first
      | (go_big_quiet_want;(with_reducible apply quiet_load_at (ty:=31) (x:=.tmp _));rfl;rfl;assumption;go_simp;go_big_quiet_on)
      | (go_big_quiet_want;apply quiet_val;(intro w' hw';go_simp;first | done | rfl);go_simp;go_big_quiet_on)
      | (go_big_quiet_want;apply quiet_call (f:=152);(intro w' hw';go_simp;first | done | rfl);(intro w' hw';exact Grew.call hw' (RLastB_any _ _ w' (by first | exact HLY.out w' hw' | exact HLX.out w' hw')));go_simp;go_big_quiet_on)
      | (go_big_quiet_skip))
     refine wpQuiet_nil ?_
     intro w22 hw22
     have HB22:=Lib.hid (below_next HB21.out hw22)
     clear hw22 hc2 hcy2 hcx2 HLY HLX
     generalize lastP yp = ly at *
     generalize lastP xp = lx at *
     by_cases hle:ly ≤ lx
     ·have hst:=HST.out
      rw [if_pos hle] at hst
      have HS2:=Lib.hid hst
      clear hst
      go_wp2
      go_roundw
      case rel=>exact ⟨k + 1,k,by go_num,rfl,HS2.out,HB22.out⟩
      case measure=>simp [intOf];omega
     ·have hst:=HST.out
      rw [if_neg hle] at hst
      have HS2:=Lib.hid hst
      clear hst
      go_wp2
      go_roundw
      case rel=>exact ⟨k + 1,fa,by go_num,rfl,HS2.out,HB22.out⟩
      case measure=>simp [intOf];omega
    ·obtain rfl:k = n1:=by omega
     have hki:¬ (k:Int) < (k:Int):=by omega
     have HAT:=Lib.hid hat
     have HR21:=Lib.hid hR21
     clear hat hb21 hR21
     go_wp2_with (go_at_call 153;refine (RCut_any r many most B _ _ TZ fa _ HR21.out.st.tab (by have:=HNZ.out;have:=HAT.out.1;omega) (by have:=HNZ.out;omega)).mono ?_;rintro e w25 ⟨v25,L25,rfl,ht25,hs25,ho25⟩;have HT25:=Lib.hid ht25;have HS25:=Lib.hid (HR21.out.st.next ht25 hs25 (fun k e=>.inr (ho25 k e)));clear ht25 hs25 ho25)
     go_ret
     have hcut:=AtT.cut (by have:=HAT.out;rwa [HNZ.out] at this) HRZ.out
     exact ⟨_,_,rfl,by rw [HFIN.out,← hcut];exact HS25.out.tab,HS25.out.step⟩
set_option maxHeartbeats 1600000 in
theorem RPeers_any (r:Nat) (many most:Int) (B:Nat) (v:Value) (L:RefL) (T:TabL) (d:List UInt8) (w:World) (hR:RTabP w r many most B v L T) (hT:TabOk many most T) (hm:1 ≤ many∧many ≤ 1000) (h32:d.length = 32) :
  Calls Tryz.prog 29 #[.pointer (some ⟨r,0,none⟩),.agg (d.map B8).toArray] w fun e w'=>∃ u,e = .returned u∧RPeer.Row w' u (peersT d T)∧Below w.heap.size w w':=by
 obtain ⟨W,hW⟩:∃ W,w.alloc (.cells (d.map B8).toArray 31) = W:=⟨_,rfl⟩
 have ho:DigO W w.heap.size d:=by rw [← hW];exact digO_new w h32
 have hb:Below w.heap.size w W:=by rw [← hW];exact (Below.refl _ w).alloc (Nat.le_refl _) _
 have HW:=Lib.hid hW
 have HO:=Lib.hid ho
 have HT:=Lib.hid hT
 have H32:=Lib.hid h32
 have HB:=Lib.hid hb
 have HR0:=Lib.hid (hR.of_new hb)
 have hTl:T.length ≤ 1000:=by have:=hT.few;omega
 have HTL:=Lib.hid hTl
 obtain ⟨ps,hps⟩:∃ ps,peersT d T = ps:=⟨_,rfl⟩
 rw [hps]
 have HPS:=Lib.hid hps
 clear hR hT hW ho hb h32 hTl hps
 go_enter Tryz.func29,Tryz.ntmps29
 go_upto_region 1 with (fail)
 rw [HW.out]
 obtain ⟨g,hg⟩:∃ g,w.heap.size = g:=⟨_,rfl⟩
 have HG:=Lib.hid hg
 rw [hg] at HO ⊢
 clear hg
 go_upto_region 2 with (first
  | ((with_reducible refine wpList_plain (o:=⟨some 9,Op.load _ _,_,_,_,_⟩) rfl fun K hK=>?_);(refine wp_load_at (ty:=31) (x:=.tmp 3) rfl rfl HO.out.at_ (hK _ _ ?_)))
  | (go_at_call 65;refine (RPlace_any r many most B v L T d _ HR0.out HT.out.rise HT.out.dig (by have:=HTL.out;omega) H32.out).mono ?_;rintro e w2 ⟨i,is,rfl,hpl,hb2⟩;have HPL:=Lib.hid hpl;have HR2:=Lib.hid (HR0.out.of_new hb2);have HB2:=Lib.hid (below_next HB.out hb2);clear hpl hb2))
 cases is
 case false=>
  obtain ⟨h1,h2,h3⟩:=HPL.out.not HT.out.rise
  have hpe:ps = []:=by rw [← HPS.out,h1]
  have HPE:=Lib.hid hpe
  clear h1 h2 h3 hpe
  go_wp2
  go_ret
  exact ⟨_,rfl,by rw [HPE.out];exact RecT.Row.nil _,HG.out ▸ HB2.out⟩
 case true=>
  obtain ⟨ps',h1,h2,h3,h4,_⟩:=HPL.out.is HT.out.rise
  obtain rfl:ps = ps':=by rw [← HPS.out,h2]
  have HAT:=Lib.hid h1
  clear h1 h2 h3 h4
  obtain ⟨gv,gc,hv, -, -, -, -, -⟩:=HR2.out.form (by have:=(List.getElem?_eq_some_iff.1 HAT.out).1;omega)
  subst hv
  obtain ⟨n1,hn1⟩:∃ n1,T.length = n1:=⟨_,rfl⟩
  rw [hn1] at HR2
  obtain ⟨a7,k7, -,hrow7,hcell7, -,hin7, -⟩:=HR2.out.entry HAT.out
  have hii:(i:Int) < (n1:Int):=by omega
  have HROW:=Lib.hid hrow7
  have c2:=HR2.out.cell2
  clear hn1 hrow7
  go_wp2
  go_ret
  exact ⟨_,rfl,HROW.out.row,HG.out ▸ HB2.out⟩
def RSrcO (w:World) (g s:Nat):Prop:=One w g (.int .u64 (s:Int)) 234∧s < 18446744073709551616
set_option maxHeartbeats 1600000 in
theorem Mix_any (S:Nat) (w:World) (hS:S < 18446744073709551616) :
  Calls Tryz.prog 217 #[.int .u64 (S:Int)] w fun e w'=>e = .returned (.int .u64 (mixN S:Nat))∧w' = w:=by
 obtain ⟨X,M,Y,N,x1,m1,x2,m2,x3⟩:=mix_facts S hS
 obtain ⟨Z,hZ⟩:∃ Z,mixN S = Z:=⟨_,rfl⟩
 rw [hZ] at x3 ⊢
 clear hZ
 go_enter Tryz.func217,Tryz.ntmps217
 go_wp2
 go_ret
 exact ⟨rfl,rfl⟩
set_option maxHeartbeats 1600000 in
theorem RNext_any (g s:Nat) (w:World) (hs:RSrcO w g s) :
  Calls Tryz.prog 208 #[.pointer (some ⟨g,0,none⟩)] w fun e w'=>e = .returned (.int .u64 (mixN (nextN s):Nat))∧RSrcO w' g (nextN s)∧w.grownBy w' (some g)∧w'.heap.size = w.heap.size:=by
 obtain ⟨ho,hlt⟩:=hs
 have hc:=ho.cell
 have hf:=ho.free
 go_enter Tryz.func208,Tryz.ntmps208
 go_upto_region 2 with (fail)
 generalize hW:World.setCell w _ _ = W1
 obtain ⟨h1,hg,hz⟩:RSrcO W1 g (nextN s)∧w.grownBy W1 (some g)∧W1.heap.size = w.heap.size:=by
  subst hW
  have e:∀ x:Int,x = ((nextN s:Nat):Int)→RSrcO (w.setCell ⟨g,0,none⟩ (.int .u64 x)) g (nextN s):=fun x hx=>by rw [hx];exact ⟨ho.set _,next_lt s⟩
  refine ⟨e _ ?_,⟨rfl,rfl,rfl,by simp,fun k hk hne=>Below.heap_setCell _ _ _ _ (fun q=>hne (by rw [q]))⟩,by simp⟩
  rw [IntKind.wrap_u64]
  unfold nextN
  omega
 clear hW hc hf ho
 have hc1:=h1.1.cell
 obtain ⟨S,hSe⟩:∃ S,nextN s = S:=⟨_,rfl⟩
 rw [hSe] at h1 hc1
 have hM:=Mix_any S W1 h1.2
 have HSE:=Lib.hid hSe
 have HM:=Lib.hid hM
 have H1:=Lib.hid h1
 have HG:=Lib.hid hg
 have HZ:=Lib.hid hz
 clear h1 hg hz hM hSe
 go_wp2_with (go_at_call 217;refine HM.out.mono ?_;rintro e w' ⟨rfl,rfl⟩)
 go_ret
 exact ⟨by rw [HSE.out];rfl,by rw [HSE.out];exact H1.out,HG.out,HZ.out⟩
set_option maxHeartbeats 1600000 in
theorem RBelow_any (g s n:Nat) (w:World) (hs:RSrcO w g s) (hn:n < 18446744073709551616) :
  Calls Tryz.prog 189 #[.pointer (some ⟨g,0,none⟩),.int .u64 (n:Int)] w fun e w'=>e = .returned (.int .u64 (belowN s n:Nat))∧RSrcO w' g (nextN s)∧w.grownBy w' (some g)∧w'.heap.size = w.heap.size:=by
 have hN:=RNext_any g s w hs
 obtain ⟨bd,bt,bw,hhi⟩:=Lib.mul64_hi (mixN (nextN s)) n (mix_lt _) hn
 have hxl:=mix_lt (nextN s)
 have hb:mixN (nextN s) * n / 18446744073709551616 = belowN s n:=rfl
 rw [hb] at hhi
 obtain ⟨B,hB⟩:∃ B,belowN s n = B:=⟨_,rfl⟩
 rw [hB] at hhi
 obtain ⟨x,hX⟩:∃ X,mixN (nextN s) = X:=⟨_,rfl⟩
 rw [hX] at hhi hN bd bt bw hxl
 have HN:=Lib.hid hN
 have HB:=Lib.hid hB
 clear hN hb hB hX
 have ba:=Lib.half_mul_le (a:=x / 4294967296) (b:=n / 4294967296) (by omega) (by omega)
 have bb:=Lib.half_mul_le (a:=x / 4294967296) (b:=n % 4294967296) (by omega) (by omega)
 have bc:=Lib.half_mul_le (a:=x % 4294967296) (b:=n / 4294967296) (by omega) (by omega)
 go_enter Tryz.func189,Tryz.ntmps189
 go_wp2_with (go_at_call 208;refine HN.out.mono ?_;rintro e w1 ⟨rfl,h1,hg1,hz1⟩;have H1:=Lib.hid h1;have HG1:=Lib.hid hg1;have HZ1:=Lib.hid hz1;clear h1 hg1 hz1)
 have ba':x / 4294967296 * (n / 4294967296) < 18446744073709551616:=by omega
 have bb':x / 4294967296 * (n % 4294967296) < 18446744073709551616:=by omega
 have bc':x % 4294967296 * (n / 4294967296) < 18446744073709551616:=by omega
 have bq1:x % 4294967296 * (n % 4294967296) / 4294967296 < 18446744073709551616:=by omega
 have bw':x % 4294967296 * (n / 4294967296) + (x / 4294967296 * (n % 4294967296) + x % 4294967296 * (n % 4294967296) / 4294967296) % 4294967296 < 18446744073709551616:=by omega
 have bq2:(x / 4294967296 * (n % 4294967296) + x % 4294967296 * (n % 4294967296) / 4294967296) / 4294967296 < 18446744073709551616:=by omega
 have bq3:(x % 4294967296 * (n / 4294967296) + (x / 4294967296 * (n % 4294967296) + x % 4294967296 * (n % 4294967296) / 4294967296) % 4294967296) / 4294967296 < 18446744073709551616:=by omega
 have bh1:x / 4294967296 * (n / 4294967296) + (x / 4294967296 * (n % 4294967296) + x % 4294967296 * (n % 4294967296) / 4294967296) / 4294967296 < 18446744073709551616:=by omega
 have bh:x / 4294967296 * (n / 4294967296) + (x / 4294967296 * (n % 4294967296) + x % 4294967296 * (n % 4294967296) / 4294967296) / 4294967296 + (x % 4294967296 * (n / 4294967296) + (x / 4294967296 * (n % 4294967296) + x % 4294967296 * (n % 4294967296) / 4294967296) % 4294967296) / 4294967296 < 18446744073709551616:=by omega
 have hh2:x / 4294967296 * (n / 4294967296) + (x / 4294967296 * (n % 4294967296) + x % 4294967296 * (n % 4294967296) / 4294967296) / 4294967296 + (x % 4294967296 * (n / 4294967296) + (x / 4294967296 * (n % 4294967296) + x % 4294967296 * (n % 4294967296) / 4294967296) % 4294967296) / 4294967296 = B:=by omega
 simp only [tdivN11,tmodN11,divN11,modN11,mulN11,addN11,wrapN11 _ bd,wrapN11 _ bq1,wrapN11 _ bb',wrapN11 _ bt,wrapN11 _ bc',wrapN11 _ bw',wrapN11 _ bq2,wrapN11 _ bq3,wrapN11 _ ba',wrapN11 _ bh1,wrapN11 _ bh]
 rw [hh2]
 go_ret
 exact ⟨by rw [HB.out];rfl,H1.out,HG1.out,HZ1.out⟩
structure RShufSt (w0:World) (g s:Nat) (l:List Int) (b cap:Nat) (i s':Nat) (cur:List Int) (W:World):Prop where
 src:RSrcO W g s'
 own:OwnN W w0.heap.size (.slice (some ⟨b,0,none⟩) cur.length cap) cur
 len:cur.length = l.length
 eq:shufL s l = shufF i s' cur
 kept:Kept (fun k=>k ≠ g) w0 W
 le:i ≤ l.length - 1
set_option maxHeartbeats 3200000 in
theorem RShuffle_any (g s:Nat) (v:Value) (l:List Int) (w:World) (hs:RSrcO w g s) (hl:Ints w v l) (hlen:l.length ≤ 1000000) :
  Calls Tryz.prog 178 #[.pointer (some ⟨g,0,none⟩),v] w fun e w'=>∃ v',e = .returned v'∧OwnN w' w.heap.size v' (shufL s l)∧Kept (fun k=>k ≠ g) w w':=by
 obtain ⟨a,c,hv⟩:=hl.len
 subst hv
 cases a with
 | none=>
  have hl0:l = []∧c = 0:=by
   obtain ⟨_,a',c',hv',h1,_,h3,_⟩:=hl
   cases hv'
   have:=h3 rfl
   exact ⟨List.eq_nil_of_length_eq_zero (by omega),this⟩
  obtain ⟨rfl,rfl⟩:=hl0
  have HO:=Lib.hid (ownN_empty w)
  have HB1:=Lib.hid ((Below.refl _ w).alloc (Nat.le_refl _) (.cells #[] 3))
  clear hl hs
  go_enter Tryz.func178,Tryz.ntmps178
  go_upto_region 3 with (fail)
  go_loopw [6,7,8] (fun iv _ _ W=>iv = .int .i64 (-1)∧W = w.alloc (.cells #[] 3)) (fun _ _ _ _=>0)
  case atStart=>exact ⟨rfl,rfl⟩
  case round=>
   obtain ⟨rfl,rfl⟩:=hrel
   go_wp2
   go_ret
   exact ⟨_,rfl,HO.out,(Kept.refl _ w).below HB1.out⟩
 | some a=>
 have HL:=Lib.hid hl
 have HS:=Lib.hid hs
 have hgl:=hs.1.lt
 have HO:=Lib.hid (ownN_empty w)
 have HL2:=Lib.hid (hl.of_new ((Below.refl _ w).alloc (Nat.le_refl _) (.cells #[] 3)))
 clear hl hs
 go_enter Tryz.func178,Tryz.ntmps178
 go_upto_region 2 with ((with_reducible refine wpList_plain (o:=⟨some 11,_,_,_,_,_⟩) rfl fun K hK=>?_);refine wp_appN (.tmp 9) (.tmp 10) rfl w.heap.size _ [] rfl HO.out _ l rfl HL2.out (by simp;omega) (by simp) fun v1 w1 hown1 hg1 hu1=>hK _ _ ?_;have hb1:=((Below.refl _ w).alloc (Nat.le_refl _) (.cells #[] 3)).grown hg1 (by simp) (fun j hj=>by cases hj <;> exact Nat.le_refl _);have ho1:OwnN w1 w.heap.size v1 l:=(by simpa using hown1);obtain ⟨a1,c1,hv⟩:=ho1.ints.len;subst hv;have HO1:=Lib.hid ho1;have HB1:=Lib.hid hb1;have HS1:=Lib.hid (show RSrcO w1 g s from ⟨HS.out.1.of_new hb1,HS.out.2⟩);clear hown1 ho1 hb1 hg1 hu1)
 rcases Nat.eq_zero_or_pos l.length with h0 | h0
 ·have hl0:l = []:=List.length_eq_zero_iff.1 h0
  subst hl0
  simp only [List.length_nil]
  go_wp2
  go_loopw [6,7,8] (fun iv _ _ W=>iv = .int .i64 (-1)∧W = w1) (fun _ _ _ _=>0)
  case atStart=>exact ⟨rfl,rfl⟩
  case round=>
   obtain ⟨rfl,rfl⟩:=hrel
   go_wp2
   go_ret
   exact ⟨_,rfl,HO1.out,(Kept.refl _ w).below HB1.out⟩
 ·obtain ⟨b,cap,hv,hbb,hbl⟩:=HO1.out.shape h0
  obtain ⟨rfl,rfl⟩:a1 = some ⟨b,0,none⟩∧c1 = cap:=by cases hv;exact ⟨rfl,rfl⟩
  obtain ⟨N,hN⟩:∃ N,l.length - 1 = N:=⟨_,rfl⟩
  have hn1:(l.length:Int) - 1 = (N:Int):=by omega
  have hst:RShufSt w g s l b c1 N s l w1:=⟨HS1.out,HO1.out,rfl,by unfold shufL;rw [hN],(Kept.refl _ w).below HB1.out,by omega⟩
  have HST:=Lib.hid hst
  have HN:=Lib.hid hN
  clear hv hst hN
  go_wp2
  try rw [hn1]
  go_loopw [6,7,8] (fun iv _ _ W=>∃ (i s':Nat) (cur:List Int),iv = .int .i64 (i:Int)∧RShufSt w g s l b c1 i s' cur W) (fun iv _ _ _=>(intOf iv).toNat)
  case atStart=>exact ⟨N,s,l,by first | rfl | (congr 1),HST.out⟩
  case round=>
   obtain ⟨i,s',cur,rfl,hst⟩:=hrel
   cases i with
   | zero=>
    have he:=hst.eq
    have hln:=hst.len
    have HO:=Lib.hid hst.own
    have HK:=Lib.hid hst.kept
    have HE:=Lib.hid (show shufL s l = cur from he)
    have HLN:=Lib.hid hln
    clear he hln hst
    go_wp2
    go_ret
    exact ⟨_,rfl,by rw [HE.out];have:=HO.out;rwa [HLN.out] at this,HK.out⟩
   | succ j=>
    have hnx:shufF (j + 1) s' cur = shufF j (nextN s') (swapL cur (j + 1) (belowN s' (j + 2))):=rfl
    have heq:=hst.eq.trans hnx
    have hle:=hst.le
    have hln:=hst.len
    have hk:=below_lt s' (j + 2) (by omega)
    have hB:=RBelow_any g s' (j + 2) wr hst.src (by omega)
    obtain ⟨I,hI⟩:∃ I,j + 1 = I:=⟨_,rfl⟩
    have e2:((j + 2:Nat):Int) = (I:Int) + 1:=by omega
    rw [e2] at hB
    rw [hI] at heq hle ⊢
    obtain ⟨k,hke⟩:∃ k,belowN s' (j + 2) = k:=⟨_,rfl⟩
    rw [hke] at hB heq hk
    have hkl:k < cur.length:=by omega
    have hIl:I < cur.length:=by omega
    have hI0:(0:Int) < (I:Int):=by omega
    have w1':IntKind.u64.wrap (I:Int) = (I:Int):=by rw [IntKind.wrap_u64];omega
    have w2':IntKind.u64.wrap ((I:Int) + 1) = (I:Int) + 1:=by rw [IntKind.wrap_u64];omega
    have w3':IntKind.i64.wrap (k:Int) = (k:Int):=by rw [IntKind.wrap_i64];omega
    have hIn:(I:Int) < (l.length:Int):=by omega
    have hkn:(k:Int) < (l.length:Int):=by omega
    have hIj:(I:Int) - 1 = (j:Int):=by omega
    have HST2:=Lib.hid hst
    have HB2:=Lib.hid hB
    have HEQ:=Lib.hid heq
    have HLN:=Lib.hid hln
    have HII:=Lib.hid hI
    have HIJ:=Lib.hid hIj
    have HKL:=Lib.hid hkl
    have HIL:=Lib.hid hIl
    clear hst hB heq hnx e2 hke hI hk hIj hln hkl hIl
    go_upto_region 6 with (go_at_call 189;refine HB2.out.mono ?_;rintro e w5 ⟨rfl,h5,hg5,hz5⟩;have H5:=Lib.hid h5;have HG5:=Lib.hid hg5;have HZ5:=Lib.hid hz5;clear h5 hg5 hz5)
    have hbg:b ≠ g:=by omega
    have ho5:OwnN w5 w.heap.size (.slice (some ⟨b,0,none⟩) cur.length c1) cur:=HST2.out.own.kept fun k' hk'=>HG5.out.block _ (HST2.out.own.lt k' hk').2 (fun e=>by have h1:=Option.some.inj e;have h2:=(HST2.out.own.lt k' hk').1;omega)
    obtain ⟨ci,fi⟩:=ho5.cell HIL.out
    obtain ⟨ck,fk⟩:=ho5.cell HKL.out
    have HO5:=Lib.hid ho5
    obtain ⟨xi,hxi⟩:∃ x,cur.getD I 0 = x:=⟨_,rfl⟩
    obtain ⟨xk,hxk⟩:∃ x,cur.getD k 0 = x:=⟨_,rfl⟩
    rw [hxi] at ci
    rw [hxk] at ck
    have HXI:=Lib.hid hxi
    have HXK:=Lib.hid hxk
    have ho6:=ho5.set I xk
    have c6:(w5.setCell ⟨b,I,none⟩ (.int .i64 xk)).cell? ⟨b,k,none⟩ = some (.int .i64 xk):=by
     have h1:=(show OwnN (w5.setCell ⟨b,I,none⟩ (.int .i64 xk)) w.heap.size (.slice (some ⟨b,0,none⟩) (cur.set I xk).length c1) (cur.set I xk) from by rw [List.length_set];exact ho6).cell (i:=k) (by rw [List.length_set];exact HKL.out)
     rw [h1.1]
     congr 2
     by_cases e:I = k
     ·subst e;simp [List.getD,HIL.out]
     ·rw [← hxk];simp [List.getD,List.getElem?_set,e]
    have f6:(w5.setCell ⟨b,I,none⟩ (.int .i64 xk)).frozen? ⟨b,k,none⟩ = false:=by rw [World.frozen?_setCell];exact fk
    clear ho5 ho6 hxi hxk
    go_wp2
    generalize hW9:World.setCell (w5.setCell _ _) _ _ = W9
    have hst9:RShufSt w g s l b c1 j (nextN s') (swapL cur I k) W9:=by
     subst hW9
     have q1:=HO5.out.set I xk
     have q2:=(show OwnN (w5.setCell ⟨b,I,none⟩ (.int .i64 xk)) w.heap.size (.slice (some ⟨b,0,none⟩) (cur.set I xk).length c1) (cur.set I xk) from by rw [List.length_set];exact q1).set k xi
     have hb5:∀ (W:World) (i:Nat) (x:Value) (h:Nat),h ≠ b→(W.setCell ⟨b,i,none⟩ x).heap[h]? = W.heap[h]?:=fun W i x h hne=>Below.heap_setCell _ _ _ _ hne
     refine ⟨⟨?_,H5.out.2⟩,?_,by rw [swapL_len];exact HLN.out,HEQ.out,?_,by have:=HII.out;omega⟩
     ·exact (show One ((w5.setCell ⟨b,I,none⟩ (.int .i64 xk)).setCell ⟨b,k,none⟩ (.int .i64 xi)) g _ _ from H5.out.1.of_block ((hb5 _ _ _ _ (fun e=>hbg e.symm)).trans (hb5 _ _ _ _ (fun e=>hbg e.symm))))
     ·unfold swapL
      rw [HXI.out,HXK.out,List.length_set,List.length_set]
      rw [List.length_set] at q2
      exact q2.kept (fun k' hk'=>rfl)
     ·have h1:Kept (fun k=>k ≠ g) w w5:=HST2.out.kept.grown HG5.out (fun r e=>by cases e;exact fun h=>h rfl)
      have hwb:∀ j',j' < w.heap.size→j' ≠ b:=fun j' hj e=>by omega
      refine ⟨h1.os,h1.tape,h1.output,?_,fun j' hj hu=>?_⟩
      ·show w.heap.size ≤ ((w5.setCell ⟨b,I,none⟩ (.int .i64 xk)).setCell ⟨b,k,none⟩ (.int .i64 xi)).heap.size
       simp only [World.size_setCell]
       exact h1.size
      ·exact ((hb5 _ _ _ _ (hwb j' hj)).trans (hb5 _ _ _ _ (hwb j' hj))).trans (h1.block j' hj hu)
    have HST9:=Lib.hid hst9
    clear hW9 hst9 c6 f6 ci fi ck fk
    try rw [HIJ.out]
    go_roundw
    case rel=>exact ⟨j,nextN s',swapL cur I k,by first | rfl | (congr 1),HST9.out⟩
    case measure=>have:=HII.out;simp [intOf];omega
set_option maxHeartbeats 1600000 in
theorem RSampleO_any (g s:Nat) (v:Value) (l:List Int) (k:Int) (w:World) (hs:RSrcO w g s) (hl:Ints w v l) (hlen:l.length ≤ 1000000) :
  Calls Tryz.prog 154 #[.pointer (some ⟨g,0,none⟩),v,.int .i64 k] w fun e w'=>∃ v',e = .returned v'∧Ints w' v' (sampleL s l k)∧Kept (fun k=>k ≠ g) w w'∧∀ q,v'.ownBlock = some q→w.heap.size ≤ q:=by
 obtain ⟨N,hN,hN2,hNl⟩:=samp_num k l.length
 have hsl:(shufL s l).length = l.length:=(shufL_perm s l).length_eq
 obtain ⟨S,hS⟩:∃ S,shufL s l = S:=⟨_,rfl⟩
 have hsam:sampleL s l k = S.take N:=by unfold sampleL;rw [hS,hN2]
 rw [hsam]
 rw [hS] at hsl
 rw [← hsl] at hN hNl
 have HSS:=Lib.hid hS
 have HNL:=Lib.hid hNl
 have hsh:=RShuffle_any g s v l w hs hl hlen
 rw [hS] at hsh
 have HSH:=Lib.hid hsh
 clear hS hNl hsam hN2 hs hl hsl hsh
 go_enter Tryz.func154,Tryz.ntmps154
 go_upto_region 2 with (go_at_call 178;refine HSH.out.mono ?_;rintro e w1 ⟨v1,rfl,ho1,hb1⟩;have HO1:=Lib.hid ho1;have HB1:=Lib.hid hb1;clear ho1 hb1)
 obtain ⟨a1,c1,hv⟩:=HO1.out.ints.len
 obtain ⟨v2,hr2,hi2,hob⟩:=HO1.out.ints.firstO N HNL.out
 have HOB:=Lib.hid (fun q (hq:v2.ownBlock = some q)=>(HO1.out.lt q (hob ▸ hq)).1)
 clear hob
 subst hv
 have HI2:=Lib.hid hi2
 clear hi2
 have hcase:(N = 0∧(k ≤ 0∨S.length = 0))∨(k = (N:Int)∧0 < N∧N ≤ S.length)∨(N = S.length∧0 < S.length∧(S.length:Int) < k):=by omega
 clear hN
 rcases hcase with ⟨rfl,h⟩ | ⟨rfl,h0,h1⟩ | ⟨rfl,h0,h1⟩
 ·rw [show ((0:Nat):Int) = 0 from rfl] at hr2
  rcases h with h | h
  ·have h1:¬ (S.length:Int) < k:=by omega
   have h2:¬ 0 < k:=by omega
   go_wp2
   go_ret
   exact ⟨_,rfl,HI2.out,HB1.out,HOB.out⟩
  ·rw [h] at hr2 ⊢
   by_cases h2:0 < k
   ·go_wp2
    go_ret
    exact ⟨_,rfl,HI2.out,HB1.out,HOB.out⟩
   ·go_wp2
    go_ret
    exact ⟨_,rfl,HI2.out,HB1.out,HOB.out⟩
 ·have h2:¬ S.length < N:=by omega
  go_wp2
  go_ret
  exact ⟨_,rfl,HI2.out,HB1.out,HOB.out⟩
 ·go_wp2
  go_ret
  exact ⟨_,rfl,HI2.out,HB1.out,HOB.out⟩
end Go.Proofs.YtnohglkilpnjhaaGreatDoor
