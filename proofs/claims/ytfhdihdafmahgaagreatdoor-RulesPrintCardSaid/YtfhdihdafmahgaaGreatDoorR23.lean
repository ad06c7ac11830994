import Derived.Test.YtfhdihdafmahgaaGreatDoorR19
set_option linter.unusedVariables false
set_option linter.unusedSimpArgs false
namespace Go.Proofs.YtfhdihdafmahgaaGreatDoor
open Go.RowKit Rn Tk
theorem ReadsT.below {w w':World} {A:Option Addr} {n:Nat} {l:List GTok} (h:ReadsT w w.heap.size A n l) (hb:Below w.heap.size w w'):ReadsT w' w'.heap.size A n l:=(Reads.below h hb).more hb.size
theorem conv_text {P:Program} {src dst e:TypeId} (hs:P.underlying src=some .string) (hd:P.underlying dst=some (.slice e)) (he:P.underlying e=some (.int .u8)) (w:World) (s:ByteArray) (l:List UInt8) (h:s=bytesOf l) (hl:l.length≤maxLen) :
  ∃ c W1,(convert src dst (.string s)).run P w=.ok (.slice (some ⟨w.heap.size,0,none⟩) l.length c) W1∧l.length≤c∧c≤maxLen∧Below w.heap.size w W1∧Reads W1 W1.heap.size 1 (some ⟨w.heap.size,0,none⟩) l.length (l.map b8):=by
 subst h;have hsz:=bytesOf_size l;obtain⟨c,W1,h1,h2,h3,h4⟩:=conv_bytes hs hd he w (bytesOf l)
 have hc:c≤maxLen:=by
  have h5:=run_bytes_of_string w src dst e (bytesOf l) hs hd he;rw[h1] at h5
  injection h5 with h5 _
  injection h5 with _ _ h5
  rw[h5];exact grownCap_le_maxLen _ _ _ _ (by rw[hsz];exact hl)
 rw[hsz] at h1 h2;rw[bytesOf_list] at h4;have:=h4.reads (B:=W1.heap.size) h4.1;rw[List.length_map] at this
 exact⟨c,W1,h1,h2,hc,h3,this⟩
end Go.Proofs.YtfhdihdafmahgaaGreatDoor
