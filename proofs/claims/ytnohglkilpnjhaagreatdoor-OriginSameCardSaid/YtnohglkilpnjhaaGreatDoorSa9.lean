/- Lemmas that the statement of this claim leans on; their own comments are taken out, for the size of the claim. No condition beyond what each lemma states. -/
import Derived.Test.YtnohglkilpnjhaaGreatDoorSa8
set_option linter.unusedVariables false
set_option linter.unusedSimpArgs false
set_option linter.unusedSectionVars false
namespace Go.Proofs.YtnohglkilpnjhaaGreatDoor
open Go.RowKit
theorem len_byte' (n j:Nat):Value.int .u8 (8 * (n:Int) / 2 ^ j % 256) = B8 (UInt8.ofNat (8 * n / 2 ^ j % 256)):=by
 rw [Int.mul_comm];exact len_byte n j
theorem own_start (w:World) (A:Array Value) (t:Nat):Own8 ((w.alloc (.cells A t)).alloc (.cells #[] 5)) (w.heap.size + 1) 5 (.slice (some ⟨w.heap.size + 1,0,none⟩) 0 0) []:=by
 have h:Own8 ((w.alloc (.cells A t)).alloc (.cells #[] 5)) (w.alloc (.cells A t)).heap.size 5 (.slice (some ⟨(w.alloc (.cells A t)).heap.size,0,none⟩) 0 0) []:=World.ownsRow_made _ #[] 0 (Nat.le_refl _) (by unfold maxLen;omega) rfl
 rwa [World.size_alloc] at h
theorem Words.lt {w:World} {g t:Nat} {ws:List UInt32} (h:Words w g t ws):g < w.heap.size:=(Array.getElem?_eq_some_iff.1 h).1
theorem step_load_words {P:Program} {w:World} {ops:Array Oper} {o:Oper} {a:Act} {K:Act→World→Prop} {Q:Exit→Act→World→Prop} {E:Prop} {ty e n:Nat} (hgd:o.guard = Option.none) (x:Operand) (ho:o.op = .load ty x)
  (g t:Nat) (s:St) (hx:a.eval x = .pointer (some ⟨g,0,none⟩)) (hw:Words w g t s.list) (hu:P.underlying ty = some (.array n e)) (hi:(P.info? ty).map (·.size) = some 8) (h:K (a.put o.dst s.agg) w):if Region.wanted o (yielded ops a.tmps) = true then Oper.wp P o a w K Q else E:=by
 rw [if_pos (by simp [Region.wanted,hgd])]
 unfold Oper.wp execOp
 simp only [ho,hx,Instr.loadAt,Instr.sureAddr,Sem.run_bind,Sem.run_pure,Result.andThen_ok,hw.run_load ty e n hu hi]
 exact h
theorem step_store_words {P:Program} {w:World} {ops:Array Oper} {o:Oper} {a:Act} {K:Act→World→Prop} {Q:Exit→Act→World→Prop} {E:Prop} {ty:Nat} (hgd:o.guard = Option.none) (x y:Operand) (ho:o.op = .store ty x y)
  (g t:Nat) (old s:St) (hx:a.eval x = .pointer (some ⟨g,0,none⟩)) (hy:a.eval y = s.agg) (hw:Words w g t old.list) (hi:(P.info? ty).map (·.size) = some 8) (h:K (a.put o.dst undef) (w.setRow g (s.list.map W32).toArray)):if Region.wanted o (yielded ops a.tmps) = true then Oper.wp P o a w K Q else E:=by
 rw [if_pos (by simp [Region.wanted,hgd])]
 have hy':a.eval y = .agg (s.list.map W32).toArray:=hy
 unfold Oper.wp execOp
 simp only [ho,hx,hy',Instr.storeAt,Instr.sureAddr,Sem.run_bind,Sem.run_pure,Result.andThen_ok,run_storeVar_row (P:=P) w g t ty (old.list.map W32).toArray (s.list.map W32).toArray hw hi (by rfl) (words_one _)]
 exact h
set_option maxRecDepth 100000 in
set_option maxHeartbeats 1600000 in
theorem RSum_any (v:Value) (l:List UInt8) (w:World) (hl:Bytes w v l) (hlen:l.length ≤ 1099511627776) :
  Calls Tryz.prog 32 #[v] w fun e w'=>e = .returned (.agg ((sumL l).map B8).toArray)∧Below w.heap.size w w':=by
 obtain ⟨i0,hi,hz0,hz1,hz2⟩:=info_parts infoU8
 obtain ⟨a,cp,hv⟩:=hl.len
 subst hv
 have HL:=Lib.hid hl
 clear hl
 go_enter Tryz.func32,Tryz.ntmps32
 have HL1:=fun (o o':Obj)=>Lib.hid ((HL.out.of_alloc o).of_alloc o')
 go_wp2_with (at_builtin;refine wpList_app8 rfl (.tmp 9) (.tmp 10) 33 rfl (w.heap.size + 1) 5 i0 Tryz.underlying33 hi hz0 hz1 hz2 _ [] rfl (own_start w _ _) _ l rfl (HL1 _ _).out ?c1 ?c2 ?_)
 case c1=>first | omega | (simp;omega)
 case c2=>simp
 intro v1 w1 ho1 hg1 _
 generalize hw0:w.alloc _ = w0 at hg1
 have hR0:Octs w0 w.heap.size 31 (List.replicate 32 0):=by subst hw0;exact heap_alloc_new w _
 have hz0':w0.heap.size = w.heap.size + 1:=by subst hw0;simp
 have hb0:Below w.heap.size w w0:=by subst hw0;exact (Below.refl _ w).alloc (Nat.le_refl _) _
 have hb1:Below (w.heap.size + 1) w0 w1:=((Below.refl _ w0).alloc (by omega) _).grown hg1 (by rw [World.size_alloc];omega) (fun j hj=>by cases hj;exact Nat.le_refl _)
 have hs1:=hb1.size
 have HR1:=Lib.hid (hR0.of_block (hb1.block _ (by omega)))
 have hbA:=hb0.trans (hb1.mono (by omega))
 have hszA:w.heap.size + 1 ≤ w1.heap.size:=by omega
 have HO:=Lib.hid ho1
 have HO1:=Lib.hid (ho1.alloc (.cells #[.int .u8 128] 5))
 have one1:∀ W:World,Bytes (W.alloc (.cells #[.int .u8 128] 5)) (.slice (some ⟨W.heap.size,0,none⟩) 1 1) [128]:=fun W=>Bytes.one W 128 5
 clear hg1 hw0 hR0 hz0' hb0 hb1 hs1 ho1 HL1
 go_wp2_with (at_builtin;refine wpList_app8 rfl (.tmp 11) (.tmp 12) 33 rfl (w.heap.size + 1) 5 i0 Tryz.underlying33 hi hz0 hz1 hz2 _ _ rfl HO1.out _ [128] rfl (one1 w1) ?c1 ?c2 ?_)
 case c1=>simp;omega
 case c2=>simp;omega
 intro v2 w2 ho2 hg2 _
 have hb2:=app_kept HO1.out HO.out hszA hg2
 have hs2:=hb2.size
 have HR2:=Lib.hid (HR1.out.of_block (hb2.block _ (by omega)))
 have hbB:=hbA.trans (hb2.mono (by omega))
 have hszB:w.heap.size + 1 ≤ w2.heap.size:=by omega
 clear HO1 HR1 hbA hb2 hg2 HO hs2 hszA one1
 go_wp2
 go_loopw [3] (fun tv wr=>∃ j:Nat,j ≤ zerosOf l.length∧Own8 wr (w.heap.size + 1) 5 tv (l ++ [128] ++ List.replicate j 0)∧Below (w.heap.size + 1) w2 wr)
  (fun tv _=>64 + l.length + 1 - lenV tv)
 case atStart=>exact ⟨0,by omega,by simpa using ho2,Below.refl _ _⟩
 case round=>
  clear ho2
  obtain ⟨j,hj,hown,hbr⟩:=hrel
  obtain ⟨T,eT⟩:∃ T,T = l ++ [128] ++ List.replicate j 0:=⟨_,rfl⟩
  have hT:T.length = l.length + 1 + j:=by rw [eT];simp;omega
  have ET:=Lib.hid eT
  rw [← eT] at hown
  have hlv:=lenV_of hown
  obtain ⟨oa,oc,rfl⟩:=hown.bytes.len
  have HO:=Lib.hid hown
  have hzz:zerosOf l.length < 64:=by unfold zerosOf;omega
  have hmod:(l.length % 64 + 1 + j) % 64 = (l.length + 1 + j) % 64:=by omega
  clear eT hown
  by_cases hne:(l.length + 1 + j) % 64 = 56
  ·have hjj:=zeros_end l.length j (by omega) hj
   subst hjj
   have hff:((T.length:Int) % 64 != 56) = false:=by rw [hT];simp;omega
   have hbC:=hbB.trans (hbr.mono (by omega))
   have hsr:=hbr.size
   have hszC:w.heap.size + 1 ≤ wr.heap.size:=by omega
   have HR3:=Lib.hid (HR2.out.of_block (hbr.block _ (by omega)))
   have HT:=Lib.hid hT
   clear hmod HR2 hbB hszB hsr hbr hj hne hlv hT
   go_wp2
   go_loopw [3,5] (fun tv cv wx=>∃ k:Nat,k ≤ 8∧cv = .int .i64 k∧Own8 wx (w.heap.size + 1) 5 tv (T ++ (lenBytes l.length).take k)∧Below (w.heap.size + 1) wr wx)
    (fun _ cv _=>8 - (intOf cv).toNat)
   case atStart=>
    refine ⟨0,by omega,rfl,?_,Below.refl _ _⟩
    simpa using HO.out
   case round=>
    clear hff
    obtain ⟨k,hk,rfl,hown,hbx⟩:=hrel
    obtain ⟨X,eX⟩:∃ X,X = T ++ (lenBytes l.length).take k:=⟨_,rfl⟩
    have hX:X.length = l.length + 1 + zerosOf l.length + k:=by rw [eX,List.length_append,List.length_take,lenBytes_len,HT.out];omega
    rw [← eX] at hown
    have EX:=Lib.hid eX
    clear eX
    obtain ⟨oa,oc,rfl⟩:=hown.bytes.len
    have HX:=Lib.hid hown
    clear hown
    by_cases hlt:k < 8
    ·have HX1:=Lib.hid (HX.out.alloc (.cells #[.int .u8 (8 * (l.length:Int) / 2 ^ (56 - 8 * k) % 256)] 5))
     have one1:∀ W:World,Bytes (W.alloc (.cells #[.int .u8 (8 * (l.length:Int) / 2 ^ (56 - 8 * k) % 256)] 5)) (.slice (some ⟨W.heap.size,0,none⟩) 1 1) [UInt8.ofNat (8 * l.length / 2 ^ (56 - 8 * k) % 256)]:=fun W=>by
      rw [len_byte'];exact Bytes.one W _ 5
     have hsx:=hbx.size
     go_wp2_with (at_builtin;refine wpList_app8 rfl (.tmp 29) (.tmp 37) 33 rfl (w.heap.size + 1) 5 i0 Tryz.underlying33 hi hz0 hz1 hz2 _ _ rfl HX1.out _ [UInt8.ofNat (8 * l.length / 2 ^ (56 - 8 * k) % 256)] rfl (one1 wr) ?d1 ?d2 ?_)
     case d1=>rw [hX];simp;omega
     case d2=>simp;omega
     intro v3 w3 ho3 hg3 _
     have hb3:=app_kept HX1.out HX.out (by omega) (by rw [← hX] at hg3;exact hg3)
     go_wp2
     go_roundw
     case rel=>
      refine ⟨k + 1,by omega,by go_num,?_,hbx.trans hb3⟩
      rw [lenBytes_next _ _ hlt,← List.append_assoc,← EX.out]
      exact ho3
     case measure=>simp [intOf];omega
    ·obtain rfl:k = 8:=by omega
     have eM:X = padL l:=by rw [EX.out,List.take_of_length_le (by rw [lenBytes_len];omega),ET.out];rfl
     rw [show ((8:Nat):Int) = 8 from rfl]
     have hbD:=hbC.trans (hbx.mono (by omega))
     have hsx:=hbx.size
     have HR4:=Lib.hid (HR3.out.of_block (hbx.block _ (by omega)))
     have hszD:w.heap.size + 1 ≤ wr.heap.size:=by omega
     have hXm:X.length % 64 = 0:=by rw [eM];exact padL_dvd l
     have hXle:X.length ≤ 1099511627900:=by rw [hX];omega
     have EM:=Lib.hid eM
     have HXL:=Lib.hid hX
     clear HR3 hbC hbx EX ET hsx hszC hk hlt hzz HO HT eM hX
     obtain ⟨wo,rfl⟩:∃ wo:World,wo = wr:=⟨_,rfl⟩
     have HB:=Lib.hid hbD
     go_wp2
     generalize hW4:wo.alloc _ = W4
     obtain ⟨hS4,hb4⟩:Words W4 wo.heap.size 152 st0.list∧Below wo.heap.size wo W4:=by
      subst hW4;exact ⟨words_fresh wo _ _ st0.list (by rfl) _ rfl,(Below.refl _ _).alloc (Nat.le_refl _) _⟩
     clear hW4 hbD
     have hX8:=HX.out.bytes
     clear HX
     go_loopw [3] (fun mv wx=>∃ n:Nat,64 * n ≤ X.length∧Bytes wo mv (X.drop (64 * n))∧Words wx wo.heap.size 152 (chunksTo X n).list∧Below wo.heap.size wo wx)
      (fun mv _=>lenV mv)
     case atStart=>exact ⟨0,by omega,by simpa using hX8,hS4,hb4⟩
     case round=>
      clear hS4 hb4 hX8
      obtain ⟨n,hn,hM,hS,hb⟩:=hrel
      obtain ⟨Y,hY⟩:∃ Y,Y = X.drop (64 * n):=⟨_,rfl⟩
      have hYl:Y.length = X.length - 64 * n:=by rw [hY,List.length_drop]
      rw [← hY] at hM
      obtain ⟨ma,mc,hmv⟩:=hM.len
      subst hmv
      by_cases hlt:64 * n < X.length
      ·have h64:64 ≤ Y.length:=by omega
       obtain ⟨r1,hrun1,hr1,_⟩:=hM.part (P:=Tryz.prog) (t:=33) Tryz.underlying33 hi hz1 none (some (.int .i64 64)) 0 64 (by omega) h64 (.inl ⟨rfl,rfl⟩) (.inr ⟨.i64,rfl⟩)
       obtain ⟨r2,hrun2,hr2,_⟩:=hM.part (P:=Tryz.prog) (t:=33) Tryz.underlying33 hi hz1 (some (.int .i64 64)) none 64 Y.length h64 (by omega) (.inr ⟨.i64,rfl⟩) (.inl ⟨rfl,rfl⟩)
       have e1:((Y.drop 0).take (64 - 0)) = Y.take 64:=by simp
       have e2:((Y.drop 64).take (Y.length - 64)) = X.drop (64 * (n + 1)):=by
        rw [List.take_of_length_le (by simp),hY,List.drop_drop];congr 1
       rw [e1] at hr1
       rw [e2] at hr2
       have hl1:64 ≤ (Y.take 64).length:=by rw [List.length_take];omega
       have hcn:chunksTo X (n + 1) = takeL (chunksTo X n) (Y.take 64):=by rw [chunksTo_next,takeL_take,hY]
       have HCN:=Lib.hid hcn
       have HS:=Lib.hid hS
       have HR1:=Lib.hid (hr1.of_new hb.drew)
       have HR2:=Lib.hid hr2
       have HLT:=Lib.hid (And.intro hlt hYl)
       have hY0:0 < Y.length:=by omega
       clear hcn hS hr1 hr2 hM hlt hYl hY e1 e2
       go_wp2
       refine wp_region_any (by kernel_rfl) ?_
       change wpAny _ _ _ _ _ _ _ (World.drew _)
       refine wpAny_take (i:=1) (v:=.slice ma Y.length mc) rfl (by kernel_rfl) (by kernel_rfl) (by kernel_rfl) (fun _ _ _ h=>h) (Or.inl ⟨by rfl,fun w=>by go_simp⟩) ?_
       refine wpAny_take (i:=2) (v:=r1) rfl (by kernel_rfl) (by kernel_rfl) (by kernel_rfl) (fun _ _ _ h=>h) (Or.inl ⟨by rfl,fun w=>by go_simp⟩) ?_
       refine wpAny_ready (rs:=[0]) (by kernel_rfl) (by simp) ?_
       refine AllReady.cons rfl (fun K hK=>?_) AllReady.nil
       refine step_load_words rfl (.tmp 6) rfl wo.heap.size 152 (chunksTo X n) rfl HS.out Tryz.underlying152 (by kernel_rfl) ?_
       refine hK _ _ ?_
       clear hK K
       refine wpAny_ready (rs:=[3]) (by kernel_rfl) (by simp) ?_
       refine AllReady.cons rfl (fun K hK=>?_) AllReady.nil
       go_simp
       refine (chunk_any (chunksTo X n) r1 _ wr.drew HR1.out hl1).mono ?_
       rintro e w2 ⟨rfl,hb2⟩
       have hb3:Below wo.heap.size wo w2:=(hb.drew).trans (hb2.mono hb.size)
       have hS2:=HS.out.of_block (hb2.block _ HS.out.lt)
       refine hK _ _ ?_
       clear hK K hb2 hb HS
       refine wpAny_ready (rs:=[4]) (by kernel_rfl) (by simp) ?_
       refine AllReady.cons rfl (fun K hK=>?_) AllReady.nil
       refine step_store_words rfl (.tmp 6) (.tmp 46) rfl wo.heap.size 152 (chunksTo X n) (takeL (chunksTo X n) (Y.take 64)) rfl rfl hS2 (by kernel_rfl) ?_
       refine hK _ _ ?_
       clear hK K
       refine wpAny_done (by kernel_rfl) ?_ _
       go_wp2
       go_roundw
       case rel=>
        obtain ⟨q1,q2⟩:=HLT.out
        refine ⟨n + 1,by omega,HR2.out,?_,hb3.trans (below_setRow' _ _ _ (Nat.le_refl _))⟩
        rw [HCN.out]
        exact hS2.laid _
       case measure=>
        obtain ⟨q1,q2⟩:=HLT.out
        obtain ⟨_,_,hq⟩:=HR2.out.len
        rw [hq]
        show (X.drop (64 * (n + 1))).length < Y.length
        rw [List.length_drop,q2];omega
      ·have hY0:Y.length = 0:=by omega
       obtain rfl:n = X.length / 64:=by omega
       obtain ⟨s,hs⟩:∃ s,s = chunksTo X (X.length / 64):=⟨_,rfl⟩
       rw [← hs] at hS
       have hout:sumL l = outB s:=by rw [hs,EM.out];rfl
       have HOUT:=Lib.hid hout
       have HS:=Lib.hid hS
       have hYn:(0 < (Y.length:Int)) = False:=by rw [hY0];simp
       have hYn2:(0 < Y.length) = False:=by rw [hY0];simp
       clear hS hs hout hlt hn hM hYl hY
       go_wp2
       generalize hW5:wr.alloc _ = W5
       have hD0:Octs W5 wr.heap.size 31 (List.replicate 32 0):=by
        rw [← hW5];exact heap_alloc_new wr _
       have hb5:Below wr.heap.size wr W5:=by rw [← hW5];exact (Below.refl _ wr).alloc (Nat.le_refl _) _
       have hg2:wo.heap.size < wr.heap.size:=HS.out.lt
       have hS5:=HS.out.of_block (hb5.block _ hg2)
       have hR5:=HR4.out.of_block ((hb5.block _ (by omega)).trans (hb.block _ (by omega)))
       have hbW:=(HB.out.trans (hb.mono (by omega))).trans (hb5.mono (by omega))
       obtain ⟨g,hg⟩:∃ g,g = wr.heap.size:=⟨_,rfl⟩
       obtain ⟨go,hgo⟩:∃ g,g = wo.heap.size:=⟨_,rfl⟩
       rw [← hgo] at hS5 hg2 hszD ⊢
       rw [← hg] at hD0 hg2 ⊢
       clear hW5 hb5 hg hgo HS HR4 HB hb hYn hYn2 hY0
       go_loopw [8] (fun iv wx=>∃ k:Nat,k ≤ 32∧iv = .int .i64 k∧Words wx go 152 s.list∧Octs wx w.heap.size 31 (List.replicate 32 0)∧Below w.heap.size w wx∧Octs wx g 31 ((outB s).take k ++ List.replicate (32 - k) 0))
        (fun iv _=>32 - (intOf iv).toNat)
       case atStart=>exact ⟨0,by omega,rfl,hS5,hR5,hbW,by simpa using hD0⟩
       case round=>
        clear hS5 hR5 hbW hD0
        obtain ⟨k,hk,rfl,hS,hR,hb,hD⟩:=hrel
        by_cases hlt:k < 32
        ·obtain ⟨x,hx⟩:∃ x,x = s.list.getD (k / 4) 0:=⟨_,rfl⟩
         have hc:=hS.cell (j:=k / 4) (by show _ < 8;omega)
         rw [← hx] at hc
         unfold W32 at hc
         have hfr:=hD.free k
         have hck:=hD.cell (j:=k) (by rw [List.length_append,List.length_take,outB_len,List.length_replicate];omega)
         have hq0:(0:Int) ≤ (k:Int) / 4:=by omega
         have hq1:(k:Int) / 4 < 8:=by omega
         have HX:=Lib.hid hx
         have HS:=Lib.hid hS
         have HR:=Lib.hid hR
         have HD:=Lib.hid hD
         clear hx hS hR hD
         go_wp2
         go_roundw
         case rel=>
          refine ⟨k + 1,by omega,by go_num,HS.out.of_block (Below.heap_setCell _ _ _ _ (by simp;omega)),HR.out.of_block (Below.heap_setCell _ _ _ _ (by simp;omega)),hb.setCell (by simp;omega) _,?_⟩
          rw [w32_out,← outB_next s k hlt]
          rw [← HX.out]
          exact HD.out.set k _
         case measure=>simp [intOf];omega
        ·obtain rfl:k = 32:=by omega
         rw [show 32 - 32 = 0 from rfl,List.replicate_zero,List.append_nil,List.take_of_length_le (by rw [outB_len];omega)] at hD
         rw [show ((32:Nat):Int) = 32 from rfl]
         have HR:=Lib.hid hR
         have HB:=Lib.hid hb
         clear hR hb hS
         go_wp2_with (first | (refine wpList_load_row rfl 31 _ rfl g rfl _ _ _ _ hD Tryz.underlying31 rfl ?hi ?_;(case hi=>rw [info_dig];simp [outB_len])) | (refine wpList_store_row rfl 31 _ _ rfl w.heap.size 31 _ _ rfl rfl HR.out ?hj ?hk (octs_one _) ?_;(case hj=>rw [info_dig];simp [outB_len]);(case hk=>simp [outB_len])))
         rw [HOUT.out]
         refine bodyPost_ret (results_cell rfl _ rfl (run_loadVar_row _ _ 31 _ ((outB s).map B8).toArray (0,0) _ (setRow_heap _ _ _ _ _ _ HR.out) Tryz.underlying31 rfl (by rw [info_dig];simp [outB_len]))) rfl ⟨rfl,?_⟩
         exact HB.out.trans (below_setRow' _ _ _ (Nat.le_refl _))
  ·have hj1:=zeros_step l.length j (by omega) hj
   have HO1:=Lib.hid (HO.out.alloc (.cells #[.int .u8 0] 5))
   have one1:∀ W:World,Bytes (W.alloc (.cells #[.int .u8 0] 5)) (.slice (some ⟨W.heap.size,0,none⟩) 1 1) [0]:=fun W=>Bytes.one W 0 5
   have hsr:=hbr.size
   have hmz:((T.length:Int) % 64 != 56) = true:=by rw [hT];simp;omega
   clear hmod
   go_wp2_with (at_builtin;refine wpList_app8 rfl (.tmp 18) (.tmp 19) 33 rfl (w.heap.size + 1) 5 i0 Tryz.underlying33 hi hz0 hz1 hz2 _ _ rfl HO1.out _ [0] rfl (one1 wr) ?c1 ?c2 ?_)
   case c1=>rw [hT];simp;omega
   case c2=>simp;omega
   intro v3 w3 ho3 hg3 _
   have hb3:=app_kept HO1.out HO.out (by omega) (by rw [← hT] at hg3;exact hg3)
   go_wp2
   go_roundw
   case rel=>
    refine ⟨j + 1,hj1,?_,hbr.trans hb3⟩
    rw [List.replicate_succ',← List.append_assoc,← ET.out]
    exact ho3
   case measure=>
    have hl3:=lenV_of ho3
    rw [List.length_append,hT] at hl3
    simp only [List.length_singleton] at hl3
    omega
theorem Own8.first (w:World) (e:Nat) (x:UInt8):Own8 (w.alloc (.cells #[.int .u8 (x.toNat:Int)] e)) w.heap.size e (.slice (some ⟨w.heap.size,0,none⟩) 1 1) [x]:=
 ⟨rfl,.inr ⟨w.heap.size,1,#[.int .u8 (x.toNat:Int)],rfl,Nat.le_refl _,heap_alloc_new w _,Nat.le_refl _,by unfold maxLen;omega,rfl,rfl⟩⟩
theorem rem_byte (q:Nat):Value.int .u8 ((q:Int) % 256) = B8 (UInt8.ofNat (q % 256)):=by
 unfold B8
 congr 1
 rw [UInt8.toNat_ofNat',Nat.mod_mod]
 simp
set_option maxRecDepth 100000 in
set_option maxHeartbeats 1600000 in
theorem Parts_any (tag:UInt8) (v:Value) (ps:List (List UInt8)) (w:World) (hp:PartsV w v ps) (h40:ps.length ≤ 40) (hm:∀ p ∈ ps,p.length ≤ 1048576) :
  Calls Tryz.prog 187 #[.int .u8 (tag.toNat:Int),v] w fun e w'=>∃ v',e = .returned v'∧Own8 w' w.heap.size 5 v' (partsL tag ps)∧Below w.heap.size w w':=by
 obtain ⟨i0,hi,hz0,hz1,hz2⟩:=info_parts infoU8
 obtain ⟨va,vc,hv⟩:=hp.len
 subst hv
 have HP:=Lib.hid hp
 have HM:=Lib.hid hm
 have htot:∀ k,(partsL tag (ps.take k)).length ≤ 41943401:=fun k=>by
  have h1:=partsL_len tag (ps.take k) 1048576 (fun p hp=>hm p (List.mem_of_mem_take hp))
  have h2:(ps.take k).length ≤ 40:=by rw [List.length_take];omega
  have h3:(ps.take k).length * (8 + 1048576) ≤ 40 * (8 + 1048576):=Nat.mul_le_mul_right _ h2
  omega
 have HT:=Lib.hid htot
 clear hp hm htot
 go_enter Tryz.func187,Tryz.ntmps187
 go_wp2
 generalize hW1:w.alloc _ = W1
 obtain ⟨hO,hb,hz⟩:Own8 W1 w.heap.size 5 (.slice (some ⟨w.heap.size,0,none⟩) 1 1) [tag]∧Below w.heap.size w W1∧w.heap.size + 1 = W1.heap.size:=by
  subst hW1
  exact ⟨Own8.first w _ tag,(Below.refl _ w).alloc (Nat.le_refl _) _,by simp⟩
 clear hW1
 go_loopw [5,6] (fun bv iv wr=>∃ k:Nat,k ≤ ps.length∧iv = .int .i64 k∧Own8 wr w.heap.size 5 bv (partsL tag (ps.take k))∧Below w.heap.size w wr)
  (fun _ iv _=>ps.length - (intOf iv).toNat)
 case atStart=>exact ⟨0,by omega,rfl,hO,hb⟩
 case round=>
  clear hO hb hz
  obtain ⟨k,hk,rfl,hO,hb⟩:=hrel
  obtain ⟨X,hX⟩:∃ X,X = partsL tag (ps.take k):=⟨_,rfl⟩
  have hXl:X.length ≤ 41943401:=by rw [hX];exact HT.out k
  rw [← hX] at hO
  obtain ⟨oa,oc,rfl⟩:=hO.bytes.len
  have HO:=Lib.hid hO
  have HB:=Lib.hid hb
  have EX:=Lib.hid hX
  have hz:=hb.size
  clear hO hb hX
  by_cases hlt:k < ps.length
  ·obtain ⟨pb,poff,pc,hpv,hpb,hat⟩:=HP.out.at_ (by omega)
   obtain ⟨rfl,rfl⟩:va = some ⟨pb,poff,none⟩∧vc = pc:=by cases hpv;exact ⟨rfl,rfl⟩
   obtain ⟨ua,uc,hcell,hu⟩:=hat k hlt
   obtain ⟨p,hp⟩:∃ p,p = ps.getD k []:=⟨_,rfl⟩
   rw [← hp] at hcell hu
   have hpl:p.length ≤ 1048576:=by
    rw [hp,List.getD_eq_getElem?_getD,List.getElem?_eq_getElem hlt];exact HM.out _ (List.getElem_mem hlt)
   have hc1:wr.cell? ⟨pb,poff + k,none⟩ = some (.slice ua p.length uc):=(HB.out.cell (p:=⟨pb,poff + k,none⟩) hpb).trans hcell
   have HU:=Lib.hid hu
   have EP:=Lib.hid hp
   have HC0:=Lib.hid (And.intro hcell hpb)
   clear hpv hat hcell hu hp hpb
   obtain ⟨wo,rfl⟩:∃ wo:World,wo = wr:=⟨_,rfl⟩
   go_wp2
   go_loopw [5,7,8] (fun bv nv jv wx=>∃ j:Nat,j ≤ 8∧jv = .int .i64 j∧nv = .int .u64 ((p.length / 256 ^ j:Nat):Int)∧Own8 wx w.heap.size 5 bv (X ++ (len8 p.length).take j)∧Below w.heap.size wo wx)
    (fun _ _ jv _=>8 - (intOf jv).toNat)
   case atStart=>exact ⟨0,by omega,rfl,by simp,by simpa using HO.out,Below.refl _ _⟩
   case round=>
    obtain ⟨j,hj,rfl,rfl,hown,hbx⟩:=hrel
    obtain ⟨Y,hY⟩:∃ Y,Y = X ++ (len8 p.length).take j:=⟨_,rfl⟩
    have hYl:Y.length = X.length + j:=by rw [hY,List.length_append,List.length_take,len8_len];omega
    rw [← hY] at hown
    have EY:=Lib.hid hY
    obtain ⟨ya,yc,rfl⟩:=hown.bytes.len
    have HY:=Lib.hid hown
    have hsx:=hbx.size
    clear hY hown
    by_cases hjt:j < 8
    ·obtain ⟨q,hq⟩:∃ q,q = p.length / 256 ^ j:=⟨_,rfl⟩
     have hql:q ≤ 1048576:=by rw [hq];exact Nat.le_trans (Nat.div_le_self _ _) hpl
     have hqn:q / 256 = p.length / 256 ^ (j + 1):=by rw [hq,Nat.div_div_eq_div_mul,Nat.pow_succ]
     have HQ:=Lib.hid hq
     have HQN:=Lib.hid hqn
     rw [← hq]
     have HY1:=Lib.hid (HY.out.alloc (.cells #[.int .u8 ((q:Int) % 256)] 5))
     have one1:∀ W:World,Bytes (W.alloc (.cells #[.int .u8 ((q:Int) % 256)] 5)) (.slice (some ⟨W.heap.size,0,none⟩) 1 1) [UInt8.ofNat (q % 256)]:=fun W=>by
      rw [rem_byte];exact Bytes.one W _ 5
     have HYL:=Lib.hid hYl
     clear hYl hq hqn
     go_wp2_with (at_builtin;refine wpList_app8 rfl (.tmp 27) (.tmp 31) 33 rfl w.heap.size 5 i0 Tryz.underlying33 hi hz0 hz1 hz2 _ _ rfl HY1.out _ [UInt8.ofNat (q % 256)] rfl (one1 wr) ?d1 ?d2 ?_)
     case d1=>rw [HYL.out];simp;omega
     case d2=>simp;omega
     intro v3 w3 ho3 hg3 _
     have hb3:=app_kept HY1.out HY.out (by omega) hg3
     go_wp2
     go_roundw
     case rel=>
      refine ⟨j + 1,by omega,by go_num,by rw [← HQN.out];rfl,?_,hbx.trans hb3⟩
      rw [len8_next _ _ hjt,← List.append_assoc,← EY.out,← HQ.out]
      exact ho3
     case measure=>simp [intOf];omega
    ·obtain rfl:j = 8:=by omega
     have eY:Y = X ++ len8 p.length:=by rw [EY.out,List.take_of_length_le (by rw [len8_len];omega)]
     rw [show ((8:Nat):Int) = 8 from rfl]
     obtain ⟨nq,hnq⟩:∃ q:Int,q = ((p.length / 256 ^ 8:Nat):Int):=⟨_,rfl⟩
     rw [← hnq]
     have HYL:=Lib.hid hYl
     have HE:=Lib.hid eY
     have hc2:wr.cell? ⟨pb,poff + k,none⟩ = some (.slice ua p.length uc):=((HB.out.trans hbx).cell (p:=⟨pb,poff + k,none⟩) HC0.out.2).trans HC0.out.1
     have HU1:=Lib.hid (HU.out.of_new (HB.out.trans hbx))
     clear hYl eY hjt hnq
     go_wp2_with (at_builtin;refine wpList_app8 rfl (.tmp 35) (.tmp 39) 33 rfl w.heap.size 5 i0 Tryz.underlying33 hi hz0 hz1 hz2 _ _ rfl HY.out _ p rfl HU1.out ?d1 ?d2 ?_)
     case d1=>rw [HYL.out];omega
     case d2=>omega
     intro v3 w3 ho3 hg3 _
     have hb3:Below w.heap.size wr w3:=(Below.refl _ _).grown hg3 (by omega) (fun q hq=>(HY.out.lt q hq).1)
     go_wp2
     go_roundw
     case rel=>
      refine ⟨k + 1,by omega,by go_num,?_,HB.out.trans (hbx.trans hb3)⟩
      rw [partsTo_next _ _ _ hlt,← EX.out,← EP.out,← HE.out]
      exact ho3
     case measure=>simp [intOf];omega
  ·obtain rfl:k = ps.length:=by omega
   have eX:X = partsL tag ps:=by rw [EX.out,List.take_length]
   have HEX:=Lib.hid eX
   clear eX hlt hk
   go_wp2
   go_ret
   exact ⟨_,rfl,HEX.out ▸ HO.out,HB.out⟩
set_option maxRecDepth 100000 in
set_option maxHeartbeats 800000 in
theorem RTagged_any (tag:UInt8) (v:Value) (ps:List (List UInt8)) (w:World) (hp:PartsV w v ps) (h40:ps.length ≤ 40) (hm:∀ p ∈ ps,p.length ≤ 1048576) :
  Calls Tryz.prog 176 #[.int .u8 (tag.toNat:Int),v] w fun e w'=>e = .returned (.agg ((sumL (partsL tag ps)).map B8).toArray)∧Below w.heap.size w w':=by
 have hl:(partsL tag ps).length ≤ 41943401:=by
  have h1:=partsL_len tag ps 1048576 hm
  have h3:ps.length * (8 + 1048576) ≤ 40 * (8 + 1048576):=Nat.mul_le_mul_right _ h40
  omega
 have HDL:=Lib.hid (sumL_len (partsL tag ps))
 obtain ⟨va,vc,hv⟩:=hp.len
 subst hv
 have HP:=Lib.hid hp
 have HM:=Lib.hid hm
 clear hp hm
 go_enter Tryz.func176,Tryz.ntmps176
 go_wp2_with fail
 generalize hW1:w.alloc _ = W1
 obtain ⟨hR,hb⟩:Octs W1 w.heap.size 31 (List.replicate 32 0)∧Below w.heap.size w W1∧w.heap.size + 1 = W1.heap.size:=by
  subst hW1
  exact ⟨heap_alloc_new w _,(Below.refl _ w).alloc (Nat.le_refl _) _,by simp⟩
 obtain ⟨hb,hz⟩:=hb
 clear hW1
 refine (Parts_any tag _ ps _ (HP.out.of_new hb) h40 HM.out).mono ?_
 rintro e w1 ⟨v1,rfl,ho1,hb1⟩
 have hR1:=hR.of_block (hb1.block _ (by omega))
 have hbA:=below_next hb hb1
 have hz1:=hb1.size
 have HO:=Lib.hid ho1.bytes
 clear hR hb hb1 ho1
 go_wp2_with fail
 refine (RSum_any _ _ _ HO.out (by omega)).mono ?_
 rintro e w2 ⟨rfl,hb2⟩
 have hR2:=Lib.hid (hR1.of_block (hb2.block _ (by omega)))
 have hbF:=Lib.hid (below_next hbA hb2)
 clear hb2 hbA hR1
 go_wp2_with ((with_reducible refine wpList_store_octs (op:=⟨none,Op.store 31 (.tmp 4) (.tmp 8),_,_,_,_⟩) 31 (.tmp 4) (.tmp 8) w.heap.size 31 (List.replicate 32 (0:UInt8)) (sumL (partsL tag ps)) ?g ?ho ?hx ?hy ?hh ?hi ?hs ?_);(case g=>rfl);(case ho=>rfl);(case hx=>rfl);(case hy=>rfl);(case hh=>exact hR2.out);(case hi=>rw [HDL.out];kernel_rfl);(case hs=>rw [HDL.out];rfl))
 refine bodyPost_ret (results_cell rfl _ rfl (run_loadVar_row _ _ 31 _ ((sumL (partsL tag ps)).map B8).toArray (0,0) _ (setRow_heap _ _ _ _ _ _ hR2.out) Tryz.underlying31 rfl (by rw [info_dig];simp [sumL_len]))) rfl ⟨rfl,?_⟩
 exact hbF.out.trans (below_setRow' _ _ _ (Nat.le_refl _))
def leafL (b:List UInt8):List UInt8:=sumL (partsL 0 [b])
def nodeL (x y:List UInt8):List UInt8:=sumL (partsL 1 [x,y])
def noneL:List UInt8:=sumL (partsL 2 [])
theorem leafL_len (b:List UInt8):(leafL b).length = 32:=sumL_len _
theorem nodeL_len (x y:List UInt8):(nodeL x y).length = 32:=sumL_len _
theorem noneL_len:noneL.length = 32:=sumL_len _
theorem parts_one {W:World} {g t:Nat} {u:Value} {b:List UInt8} (h:W.heap[g]? = some (.cells #[u] t (0,0))) (hu:Bytes W u b):PartsV W (.slice (some ⟨g,0,none⟩) 1 1) [b]:=by
 refine ⟨_,1,rfl,Nat.le_refl _,by unfold maxLen;omega,(fun h=>by cases h),fun _=>⟨g,0,rfl,(Array.getElem?_eq_some_iff.1 h).1,fun i hi=>?_⟩⟩
 obtain rfl:i = 0:=by simp at hi;omega
 exact ⟨u,by simp [World.cell?,h],hu⟩
theorem parts_two {W:World} {g t:Nat} {u v:Value} {a b:List UInt8} (h:W.heap[g]? = some (.cells #[u,v] t (0,0))) (hu:Bytes W u a) (hv:Bytes W v b):PartsV W (.slice (some ⟨g,0,none⟩) 2 2) [a,b]:=by
 refine ⟨_,2,rfl,Nat.le_refl _,by unfold maxLen;omega,(fun h=>by cases h),fun _=>⟨g,0,rfl,(Array.getElem?_eq_some_iff.1 h).1,fun i hi=>?_⟩⟩
 match i,hi with
 | 0,_=>exact ⟨u,by simp [World.cell?,h],hu⟩
 | 1,_=>exact ⟨v,by simp [World.cell?,h],hv⟩
theorem bytes_octs {W:World} {g t:Nat} {bs:List UInt8} (h:Octs W g t bs) (hl:bs.length = 32):Bytes W (.slice (some ⟨g,0,none⟩) 32 32) bs:=by
 refine ⟨by simp,_,32,?_,by omega,by unfold maxLen;omega,(fun h=>by cases h),fun _=>⟨g,0,rfl,(Array.getElem?_eq_some_iff.1 h).1,fun j hj=>?_⟩⟩
 ·rw [hl]
 ·rw [Nat.zero_add,h.cell (by omega)]
  rw [List.getElem?_map,List.getElem?_eq_getElem (by omega)]
  simp [List.getD,List.getElem?_eq_getElem (show j < bs.length by omega)]
set_option maxRecDepth 100000 in
set_option maxHeartbeats 800000 in
theorem Leaf_any (v:Value) (b:List UInt8) (w:World) (hb:Bytes w v b) (hl:b.length ≤ 1048576) (hK:Consts w) :
  Calls Tryz.prog 70 #[v] w fun e w'=>e = .returned (.agg ((leafL b).map B8).toArray)∧Below w.heap.size w w':=by
 have HDL:=Lib.hid (sumL_len (partsL 0 [b]))
 obtain ⟨va,vc,hv⟩:=hb.len
 subst hv
 have HB:=Lib.hid hb
 clear hb
 go_enter Tryz.func70,Tryz.ntmps70
 go_wp2_with fail
 generalize hW1:(w.alloc _).alloc _ = W1
 obtain ⟨hR,hP,hb1,hz⟩:Octs W1 w.heap.size 31 (List.replicate 32 0)∧PartsV W1 (.slice (some ⟨w.heap.size + 1,0,none⟩) 1 1) [b]∧Below w.heap.size w W1∧w.heap.size + 2 = W1.heap.size:=by
  subst hW1
  refine ⟨(Below.heap_alloc _ _ _ (by simp)).trans (heap_alloc_new w _),parts_one (t:=33) (u:=.slice va b.length vc) ?_ ((HB.out.of_alloc _).of_alloc _),((Below.refl _ w).alloc (Nat.le_refl _) _).alloc (by simp) _,by simp⟩
  have:=heap_alloc_new (w.alloc (.cells ((List.replicate 32 (0:UInt8)).map B8).toArray 31)) (.cells #[.slice va b.length vc] 33)
  rwa [World.size_alloc] at this
 clear hW1
 refine (Tagged_any 0 _ [b] W1 hP (by simp) (by simpa using hl) (hK.of_new hb1)).mono ?_
 rintro e w2 ⟨rfl,hb2⟩
 have hR2:=Lib.hid (hR.of_block (hb2.block _ (by omega)))
 have hbF:=Lib.hid (below_next hb1 (hb2.mono (by omega)))
 clear hb2 hb1 hR hP
 go_wp2_with ((with_reducible refine wpList_store_octs (op:=⟨none,Op.store 31 (.tmp 2) (.tmp 5),_,_,_,_⟩) 31 (.tmp 2) (.tmp 5) (w.heap.size) 31 (List.replicate 32 (0:UInt8)) (sumL (partsL 0 [b])) ?g ?ho ?hx ?hy ?hh ?hi ?hs ?_);(case g=>rfl);(case ho=>rfl);(case hx=>rfl);(case hy=>rfl);(case hh=>exact hR2.out);(case hi=>rw [HDL.out];kernel_rfl);(case hs=>rw [HDL.out];rfl))
 refine bodyPost_ret (results_cell rfl _ rfl (run_loadVar_row _ _ 31 _ ((sumL (partsL 0 [b])).map B8).toArray (0,0) _ (setRow_heap _ _ _ _ _ _ hR2.out) Tryz.underlying31 rfl (by rw [info_dig];simp [sumL_len]))) rfl ⟨rfl,?_⟩
 exact hbF.out.trans (below_setRow' _ _ _ (Nat.le_refl _))
set_option maxRecDepth 100000 in
set_option maxHeartbeats 800000 in
theorem RLeaf_any (v:Value) (b:List UInt8) (w:World) (hb:Bytes w v b) (hl:b.length ≤ 1048576) :
  Calls Tryz.prog 175 #[v] w fun e w'=>e = .returned (.agg ((leafL b).map B8).toArray)∧Below w.heap.size w w':=by
 have HDL:=Lib.hid (sumL_len (partsL 0 [b]))
 obtain ⟨va,vc,hv⟩:=hb.len
 subst hv
 have HB:=Lib.hid hb
 clear hb
 go_enter Tryz.func175,Tryz.ntmps175
 go_wp2_with fail
 generalize hW1:(w.alloc _).alloc _ = W1
 obtain ⟨hR,hP,hb1,hz⟩:Octs W1 w.heap.size 31 (List.replicate 32 0)∧PartsV W1 (.slice (some ⟨w.heap.size + 1,0,none⟩) 1 1) [b]∧Below w.heap.size w W1∧w.heap.size + 2 = W1.heap.size:=by
  subst hW1
  refine ⟨(Below.heap_alloc _ _ _ (by simp)).trans (heap_alloc_new w _),parts_one (t:=33) (u:=.slice va b.length vc) ?_ ((HB.out.of_alloc _).of_alloc _),((Below.refl _ w).alloc (Nat.le_refl _) _).alloc (by simp) _,by simp⟩
  have:=heap_alloc_new (w.alloc (.cells ((List.replicate 32 (0:UInt8)).map B8).toArray 31)) (.cells #[.slice va b.length vc] 33)
  rwa [World.size_alloc] at this
 clear hW1
 refine (RTagged_any 0 _ [b] W1 hP (by simp) (by simpa using hl)).mono ?_
 rintro e w2 ⟨rfl,hb2⟩
 have hR2:=Lib.hid (hR.of_block (hb2.block _ (by omega)))
 have hbF:=Lib.hid (below_next hb1 (hb2.mono (by omega)))
 clear hb2 hb1 hR hP
 go_wp2_with ((with_reducible refine wpList_store_octs (op:=⟨none,Op.store 31 (.tmp 2) (.tmp 5),_,_,_,_⟩) 31 (.tmp 2) (.tmp 5) (w.heap.size) 31 (List.replicate 32 (0:UInt8)) (sumL (partsL 0 [b])) ?g ?ho ?hx ?hy ?hh ?hi ?hs ?_);(case g=>rfl);(case ho=>rfl);(case hx=>rfl);(case hy=>rfl);(case hh=>exact hR2.out);(case hi=>rw [HDL.out];kernel_rfl);(case hs=>rw [HDL.out];rfl))
 refine bodyPost_ret (results_cell rfl _ rfl (run_loadVar_row _ _ 31 _ ((sumL (partsL 0 [b])).map B8).toArray (0,0) _ (setRow_heap _ _ _ _ _ _ hR2.out) Tryz.underlying31 rfl (by rw [info_dig];simp [sumL_len]))) rfl ⟨rfl,?_⟩
 exact hbF.out.trans (below_setRow' _ _ _ (Nat.le_refl _))
set_option maxRecDepth 100000 in
set_option maxHeartbeats 800000 in
theorem Node_any (x y:List UInt8) (w:World) (hx:x.length = 32) (hy:y.length = 32) (hK:Consts w) :
  Calls Tryz.prog 111 #[.agg (x.map B8).toArray,.agg (y.map B8).toArray] w fun e w'=>e = .returned (.agg ((nodeL x y).map B8).toArray)∧Below w.heap.size w w':=by
 have HDL:=Lib.hid (sumL_len (partsL 1 [x,y]))
 have HX:=Lib.hid hx
 have HY:=Lib.hid hy
 clear hx hy
 go_enter Tryz.func111,Tryz.ntmps111
 go_upto_region 1 with (fail)
 generalize hW0:((w.alloc _).alloc _).alloc _ = W0
 obtain ⟨hO1,hO2,hO3,hb0,hz0⟩:Octs W0 w.heap.size 31 x∧Octs W0 (w.heap.size + 1) 31 y∧Octs W0 (w.heap.size + 1 + 1) 31 (List.replicate 32 0)∧Below w.heap.size w W0∧w.heap.size + 3 = W0.heap.size:=by
  subst hW0
  refine ⟨(Below.heap_alloc _ _ _ (by simp;omega)).trans ((Below.heap_alloc _ _ _ (by simp)).trans (heap_alloc_new w _)),?_,?_,(((Below.refl _ w).alloc (Nat.le_refl _) _).alloc (by simp) _).alloc (by simp;omega) _,by simp⟩
  ·refine (Below.heap_alloc _ _ _ (by simp)).trans ?_
   have:=heap_alloc_new (w.alloc (.cells (x.map B8).toArray 31)) (.cells (y.map B8).toArray 31)
   rwa [World.size_alloc] at this
  ·have:=heap_alloc_new ((w.alloc (.cells (x.map B8).toArray 31)).alloc (.cells (y.map B8).toArray 31)) (.cells ((List.replicate 32 (0:UInt8)).map B8).toArray 31)
   rwa [World.size_alloc,World.size_alloc] at this
 clear hW0
 refine wp_region_grew_tail 2 (by kernel_rfl) (by kernel_rfl) ?_
 simp only [List.take_succ_cons,List.take_zero,List.drop_succ_cons,List.drop_zero]
 (go_big_quiet_want;apply quiet_val;(intro w' hw';go_simp;first | done | rfl);go_simp;go_big_quiet_on)
 (go_big_quiet_want;apply quiet_val;(intro w' hw';go_simp;first | done | rfl);go_simp;go_big_quiet_on)
 refine wpQuiet_nil ?_
 intro w1 hw1
 have HO1:=Lib.hid (hw1.octs hO1)
 have HO2:=Lib.hid (hw1.octs hO2)
 have HO3:=Lib.hid (hw1.octs hO3)
 have HB1:=Lib.hid (hb0.trans (hw1.mono (by omega)):Below w.heap.size w w1)
 have hz1:w.heap.size + 3 ≤ w1.heap.size:=by have:=Below.size hw1;omega
 clear hw1 hO1 hO2 hO3 hb0
 go_wp2_with fail
 generalize hW2:w1.alloc _ = w2
 obtain ⟨hP,hR,hb2,hz2⟩:PartsV w2 (.slice (some ⟨w1.heap.size,0,none⟩) 2 2) [x,y]∧Octs w2 (w.heap.size + 1 + 1) 31 (List.replicate 32 0)∧Below w.heap.size w w2∧w1.heap.size + 1 = w2.heap.size:=by
  subst hW2
  refine ⟨parts_two (t:=33) (heap_alloc_new w1 _) ((bytes_octs HO1.out HX.out).of_alloc _) ((bytes_octs HO2.out HY.out).of_alloc _),(HO3.out.of_block (Below.heap_alloc _ _ _ (by omega))),HB1.out.alloc (by omega) _,by simp⟩
 clear hW2
 refine (Tagged_any 1 _ [x,y] w2 hP (by simp) (by have:=HX.out;have:=HY.out;simp;omega) (hK.of_new hb2)).mono ?_
 rintro e w3 ⟨rfl,hb3⟩
 have hR2:=Lib.hid (hR.of_block (hb3.block _ (by omega)))
 have hbF:=Lib.hid (hb2.trans (hb3.mono (by omega)):Below w.heap.size w w3)
 clear hb3 hb2 hR hP
 go_wp2_with ((with_reducible refine wpList_store_octs (op:=⟨none,Op.store 31 (.tmp 4) (.tmp 8),_,_,_,_⟩) 31 (.tmp 4) (.tmp 8) (w.heap.size + 1 + 1) 31 (List.replicate 32 (0:UInt8)) (sumL (partsL 1 [x,y])) ?g ?ho ?hx ?hy ?hh ?hi ?hs ?_);(case g=>rfl);(case ho=>rfl);(case hx=>rfl);(case hy=>rfl);(case hh=>exact hR2.out);(case hi=>rw [HDL.out];kernel_rfl);(case hs=>rw [HDL.out];rfl))
 refine bodyPost_ret (results_cell rfl _ rfl (run_loadVar_row _ _ 31 _ ((sumL (partsL 1 [x,y])).map B8).toArray (0,0) _ (setRow_heap _ _ _ _ _ _ hR2.out) Tryz.underlying31 rfl (by rw [info_dig];simp [sumL_len]))) rfl ⟨rfl,?_⟩
 exact hbF.out.trans (below_setRow' _ _ _ (by omega))
set_option maxRecDepth 100000 in
set_option maxHeartbeats 800000 in
theorem RNode_any (x y:List UInt8) (w:World) (hx:x.length = 32) (hy:y.length = 32) :
  Calls Tryz.prog 188 #[.agg (x.map B8).toArray,.agg (y.map B8).toArray] w fun e w'=>e = .returned (.agg ((nodeL x y).map B8).toArray)∧Below w.heap.size w w':=by
 have HDL:=Lib.hid (sumL_len (partsL 1 [x,y]))
 have HX:=Lib.hid hx
 have HY:=Lib.hid hy
 clear hx hy
 go_enter Tryz.func188,Tryz.ntmps188
 go_upto_region 1 with (fail)
 generalize hW0:((w.alloc _).alloc _).alloc _ = W0
 obtain ⟨hO1,hO2,hO3,hb0,hz0⟩:Octs W0 w.heap.size 31 x∧Octs W0 (w.heap.size + 1) 31 y∧Octs W0 (w.heap.size + 1 + 1) 31 (List.replicate 32 0)∧Below w.heap.size w W0∧w.heap.size + 3 = W0.heap.size:=by
  subst hW0
  refine ⟨(Below.heap_alloc _ _ _ (by simp;omega)).trans ((Below.heap_alloc _ _ _ (by simp)).trans (heap_alloc_new w _)),?_,?_,(((Below.refl _ w).alloc (Nat.le_refl _) _).alloc (by simp) _).alloc (by simp;omega) _,by simp⟩
  ·refine (Below.heap_alloc _ _ _ (by simp)).trans ?_
   have:=heap_alloc_new (w.alloc (.cells (x.map B8).toArray 31)) (.cells (y.map B8).toArray 31)
   rwa [World.size_alloc] at this
  ·have:=heap_alloc_new ((w.alloc (.cells (x.map B8).toArray 31)).alloc (.cells (y.map B8).toArray 31)) (.cells ((List.replicate 32 (0:UInt8)).map B8).toArray 31)
   rwa [World.size_alloc,World.size_alloc] at this
 clear hW0
 refine wp_region_grew_tail 2 (by kernel_rfl) (by kernel_rfl) ?_
 simp only [List.take_succ_cons,List.take_zero,List.drop_succ_cons,List.drop_zero]
 (go_big_quiet_want;apply quiet_val;(intro w' hw';go_simp;first | done | rfl);go_simp;go_big_quiet_on)
 (go_big_quiet_want;apply quiet_val;(intro w' hw';go_simp;first | done | rfl);go_simp;go_big_quiet_on)
 refine wpQuiet_nil ?_
 intro w1 hw1
 have HO1:=Lib.hid (hw1.octs hO1)
 have HO2:=Lib.hid (hw1.octs hO2)
 have HO3:=Lib.hid (hw1.octs hO3)
 have HB1:=Lib.hid (hb0.trans (hw1.mono (by omega)):Below w.heap.size w w1)
 have hz1:w.heap.size + 3 ≤ w1.heap.size:=by have:=Below.size hw1;omega
 clear hw1 hO1 hO2 hO3 hb0
 go_wp2_with fail
 generalize hW2:w1.alloc _ = w2
 obtain ⟨hP,hR,hb2,hz2⟩:PartsV w2 (.slice (some ⟨w1.heap.size,0,none⟩) 2 2) [x,y]∧Octs w2 (w.heap.size + 1 + 1) 31 (List.replicate 32 0)∧Below w.heap.size w w2∧w1.heap.size + 1 = w2.heap.size:=by
  subst hW2
  refine ⟨parts_two (t:=33) (heap_alloc_new w1 _) ((bytes_octs HO1.out HX.out).of_alloc _) ((bytes_octs HO2.out HY.out).of_alloc _),(HO3.out.of_block (Below.heap_alloc _ _ _ (by omega))),HB1.out.alloc (by omega) _,by simp⟩
 clear hW2
 refine (RTagged_any 1 _ [x,y] w2 hP (by simp) (by have:=HX.out;have:=HY.out;simp;omega)).mono ?_
 rintro e w3 ⟨rfl,hb3⟩
 have hR2:=Lib.hid (hR.of_block (hb3.block _ (by omega)))
 have hbF:=Lib.hid (hb2.trans (hb3.mono (by omega)):Below w.heap.size w w3)
 clear hb3 hb2 hR hP
 go_wp2_with ((with_reducible refine wpList_store_octs (op:=⟨none,Op.store 31 (.tmp 4) (.tmp 8),_,_,_,_⟩) 31 (.tmp 4) (.tmp 8) (w.heap.size + 1 + 1) 31 (List.replicate 32 (0:UInt8)) (sumL (partsL 1 [x,y])) ?g ?ho ?hx ?hy ?hh ?hi ?hs ?_);(case g=>rfl);(case ho=>rfl);(case hx=>rfl);(case hy=>rfl);(case hh=>exact hR2.out);(case hi=>rw [HDL.out];kernel_rfl);(case hs=>rw [HDL.out];rfl))
 refine bodyPost_ret (results_cell rfl _ rfl (run_loadVar_row _ _ 31 _ ((sumL (partsL 1 [x,y])).map B8).toArray (0,0) _ (setRow_heap _ _ _ _ _ _ hR2.out) Tryz.underlying31 rfl (by rw [info_dig];simp [sumL_len]))) rfl ⟨rfl,?_⟩
 exact hbF.out.trans (below_setRow' _ _ _ (by omega))
def aboveL:List (List UInt8)→List (List UInt8)
 | a :: b :: t=>nodeL a b :: aboveL t
 | l=>l
theorem aboveL_len:∀ l:List (List UInt8),(aboveL l).length = (l.length + 1) / 2
 | []=>by simp [aboveL]
 | [_]=>by simp [aboveL]
 | a :: b :: t=>by
  have:=aboveL_len t
  simp only [aboveL,List.length_cons]
  omega
theorem aboveL_32:∀ l:List (List UInt8),Dig32 l→Dig32 (aboveL l)
 | [],_=>fun _ h=>by simp [aboveL] at h
 | [a],h=>h
 | a :: b :: t,h=>fun d hd=>by
  simp only [aboveL,List.mem_cons] at hd
  rcases hd with rfl | hd
  ·exact nodeL_len _ _
  ·exact aboveL_32 t (fun d hd=>h d (by simp [hd])) d hd
theorem aboveL_at:∀ (l:List (List UInt8)) (k:Nat),2 * k + 1 < l.length→(aboveL l).getD k [] = nodeL (l.getD (2 * k) []) (l.getD (2 * k + 1) [])
 | [],_,h=>by simp at h
 | [_],_,h=>by simp at h
 | a :: b :: t,0,_=>by simp [aboveL]
 | a :: b :: t,k + 1,h=>by
  simp only [List.length_cons] at h
  have:=aboveL_at t k (by omega)
  simp only [aboveL,List.getD_cons_succ]
  rw [this,show 2 * (k + 1) = 2 * k + 1 + 1 by omega]
  simp only [List.getD_cons_succ]
theorem aboveL_last:∀ (l:List (List UInt8)),l.length % 2 = 1→(aboveL l).getD (l.length / 2) [] = l.getD (l.length - 1) []
 | [],h=>by simp at h
 | [_],_=>by simp [aboveL]
 | a :: b :: t,h=>by
  simp only [List.length_cons] at h
  have:=aboveL_last t (by omega)
  simp only [aboveL,List.length_cons]
  rw [show (t.length + 1 + 1) / 2 = t.length / 2 + 1 by omega,List.getD_cons_succ,this,show t.length + 1 + 1 - 1 = (t.length - 1) + 1 + 1 by omega,List.getD_cons_succ,List.getD_cons_succ]
def rowsP:Nat→List (List UInt8)→List (List (List UInt8))
 | 0,l=>[l]
 | f + 1,l=>if l.length ≤ 1 then [l] else l :: rowsP f (aboveL l)
def rowsL (l:List (List UInt8)):List (List (List UInt8)):=rowsP l.length l
theorem rowsP_more (f g:Nat) (l:List (List UInt8)) (hf:l.length ≤ f) (hg:l.length ≤ g):rowsP f l = rowsP g l:=by
 induction f generalizing g l with
 | zero=>
  cases g with
  | zero=>rfl
  | succ g=>simp only [rowsP];rw [if_pos (by omega)]
 | succ f ih=>
  cases g with
  | zero=>simp only [rowsP];rw [if_pos (by omega)]
  | succ g=>
   simp only [rowsP]
   split
   ·rfl
   ·rw [ih g _ (by rw [aboveL_len];omega) (by rw [aboveL_len];omega)]
theorem rowsL_step {l:List (List UInt8)} (h:1 < l.length):rowsL l = l :: rowsL (aboveL l):=by
 unfold rowsL
 obtain ⟨k,hk⟩:∃ k,l.length = k + 1:=⟨l.length - 1,by omega⟩
 rw [hk,rowsP,if_neg (by omega),rowsP_more k _ _ (by rw [aboveL_len];omega) (Nat.le_refl _)]
theorem rowsL_end {l:List (List UInt8)} (h:l.length ≤ 1):rowsL l = [l]:=by
 unfold rowsL
 match l,h with
 | [],_=>rfl
 | [_],_=>rfl
def contL (l:List (List UInt8)) (k:Nat):List (List UInt8):=(aboveL l).take k ++ l.drop k
theorem contL_len {l:List (List UInt8)} {k:Nat} (h:k ≤ l.length / 2):(contL l k).length = l.length:=by
 unfold contL
 rw [List.length_append,List.length_take,List.length_drop,aboveL_len]
 omega
theorem contL_at {l:List (List UInt8)} {k i:Nat} (h:k ≤ l.length / 2) (hi:k ≤ i):(contL l k).getD i [] = l.getD i []:=by
 unfold contL
 have e:((aboveL l).take k).length = k:=by rw [List.length_take,aboveL_len];omega
 rw [List.getD_eq_getElem?_getD,List.getElem?_append_right (by omega),e,List.getElem?_drop,show k + (i - k) = i by omega,List.getD_eq_getElem?_getD]
theorem contL_set {l:List (List UInt8)} {k:Nat} (h:k < (l.length + 1) / 2) (hk:k ≤ l.length / 2):(contL l k).set k ((aboveL l).getD k []) = (aboveL l).take (k + 1) ++ l.drop (k + 1):=by
 unfold contL
 have e:((aboveL l).take k).length = k:=by rw [List.length_take,aboveL_len];omega
 rw [List.set_append_right _ _ (by omega),e,Nat.sub_self,List.drop_eq_getElem_cons (show k < l.length by omega),List.set_cons_zero]
 have hk2:k < (aboveL l).length:=by rw [aboveL_len];omega
 rw [List.getD_eq_getElem?_getD,List.getElem?_eq_getElem hk2,Option.getD_some,← List.take_append_getElem hk2,List.append_assoc]
 rfl
end Go.Proofs.YtnohglkilpnjhaaGreatDoor
