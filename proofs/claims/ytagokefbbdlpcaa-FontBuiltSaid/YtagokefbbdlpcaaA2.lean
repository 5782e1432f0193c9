/- The switch of the reference's table: its cases, and that the translated text is this chain. -/
import Derived.Test.YtagokefbbdlpcaaA1
import Derived.Deep.CutBlock
namespace Go.Proofs.Ytagokefbbdlpcaa
set_option linter.unusedVariables false
set_option linter.unusedSimpArgs false
open Go.RowKit

def cases0 : List Case := [
  ⟨true, 0, none, "ref.go:21", "ref.go:22"⟩,
  ⟨false, 8, some ⟨3, 0, 7, 9, 0⟩, "ref.go:23", "ref.go:24"⟩,
  ⟨false, 9, some ⟨3, 0, 10, 11, 0⟩, "ref.go:25", "ref.go:26"⟩,
  ⟨false, 10, some ⟨2, 1, 3, 10, 0⟩, "ref.go:27", "ref.go:28"⟩,
  ⟨false, 11, some ⟨3, 1, 1, 11, 0⟩, "ref.go:29", "ref.go:30"⟩,
  ⟨false, 12, some ⟨3, 1, 1, 12, 0⟩, "ref.go:31", "ref.go:32"⟩,
  ⟨false, 13, some ⟨1, 1, 2, 10, 0⟩, "ref.go:33", "ref.go:34"⟩,
  ⟨false, 31, some ⟨3, 0, 7, 9, 0⟩, "ref.go:35", "ref.go:36"⟩,
  ⟨false, 32, some ⟨0, 2, 4, 12, 0⟩, "ref.go:37", "ref.go:38"⟩,
  ⟨false, 33, some ⟨0, 0, 15, 13, 0⟩, "ref.go:39", "ref.go:40"⟩,
  ⟨false, 34, some ⟨0, 0, 14, 13, 0⟩, "ref.go:41", "ref.go:42"⟩,
  ⟨false, 37, some ⟨0, 0, 0, 5, 0⟩, "ref.go:43", "ref.go:44"⟩,
  ⟨false, 38, some ⟨0, 0, 0, 13, 0⟩, "ref.go:45", "ref.go:46"⟩,
  ⟨false, 39, some ⟨0, 7, 14, 13, 0⟩, "ref.go:47", "ref.go:48"⟩,
  ⟨false, 40, some ⟨0, 0, 12, 13, 0⟩, "ref.go:49", "ref.go:50"⟩,
  ⟨false, 41, some ⟨0, 0, 13, 13, 0⟩, "ref.go:51", "ref.go:52"⟩,
  ⟨false, 42, some ⟨0, 0, 0, 13, 0⟩, "ref.go:53", "ref.go:54"⟩,
  ⟨false, 43, some ⟨0, 0, 0, 4, 0⟩, "ref.go:55", "ref.go:56"⟩,
  ⟨false, 44, some ⟨0, 6, 16, 7, 0⟩, "ref.go:57", "ref.go:58"⟩,
  ⟨false, 45, some ⟨0, 0, 11, 4, 0⟩, "ref.go:59", "ref.go:60"⟩,
  ⟨false, 46, some ⟨0, 7, 16, 7, 0⟩, "ref.go:61", "ref.go:62"⟩,
  ⟨false, 47, some ⟨0, 0, 10, 7, 0⟩, "ref.go:63", "ref.go:64"⟩,
  ⟨false, 57, some ⟨0, 4, 17, 3, 0⟩, "ref.go:65", "ref.go:66"⟩,
  ⟨false, 58, some ⟨0, 5, 16, 7, 0⟩, "ref.go:67", "ref.go:68"⟩,
  ⟨false, 59, some ⟨0, 6, 16, 13, 0⟩, "ref.go:69", "ref.go:70"⟩,
  ⟨false, 62, some ⟨0, 0, 0, 13, 0⟩, "ref.go:71", "ref.go:72"⟩,
  ⟨false, 63, some ⟨0, 0, 15, 13, 0⟩, "ref.go:73", "ref.go:74"⟩,
  ⟨false, 64, some ⟨0, 0, 0, 13, 0⟩, "ref.go:75", "ref.go:76"⟩,
  ⟨false, 90, some ⟨0, 3, 0, 0, 0⟩, "ref.go:77", "ref.go:78"⟩,
  ⟨false, 91, some ⟨0, 0, 12, 13, 0⟩, "ref.go:79", "ref.go:80"⟩,
  ⟨false, 92, some ⟨0, 0, 0, 13, 0⟩, "ref.go:81", "ref.go:82"⟩,
  ⟨false, 93, some ⟨0, 0, 13, 13, 0⟩, "ref.go:83", "ref.go:84"⟩,
  ⟨false, 94, some ⟨0, 0, 0, 13, 0⟩, "ref.go:85", "ref.go:86"⟩,
  ⟨false, 95, some ⟨0, 8, 0, 13, 0⟩, "ref.go:87", "ref.go:88"⟩,
  ⟨false, 96, some ⟨0, 0, 0, 13, 0⟩, "ref.go:89", "ref.go:90"⟩,
  ⟨false, 122, some ⟨0, 3, 0, 0, 0⟩, "ref.go:91", "ref.go:92"⟩,
  ⟨false, 123, some ⟨0, 0, 12, 13, 0⟩, "ref.go:93", "ref.go:94"⟩,
  ⟨false, 124, some ⟨0, 0, 10, 13, 0⟩, "ref.go:95", "ref.go:96"⟩,
  ⟨false, 125, some ⟨0, 0, 13, 13, 0⟩, "ref.go:97", "ref.go:98"⟩,
  ⟨false, 126, some ⟨0, 0, 0, 13, 0⟩, "ref.go:99", "ref.go:100"⟩]
def cases1 : List Case := [
  ⟨false, 132, some ⟨3, 0, 7, 9, 0⟩, "ref.go:101", "ref.go:102"⟩,
  ⟨false, 133, some ⟨3, 1, 1, 10, 0⟩, "ref.go:103", "ref.go:104"⟩,
  ⟨false, 159, some ⟨3, 0, 7, 9, 0⟩, "ref.go:105", "ref.go:106"⟩,
  ⟨false, 160, some ⟨0, 0, 9, 7, 0⟩, "ref.go:107", "ref.go:108"⟩,
  ⟨false, 161, some ⟨0, 0, 12, 13, 0⟩, "ref.go:109", "ref.go:110"⟩,
  ⟨false, 165, some ⟨0, 0, 0, 5, 0⟩, "ref.go:111", "ref.go:112"⟩,
  ⟨false, 169, some ⟨0, 0, 0, 13, 0⟩, "ref.go:113", "ref.go:114"⟩,
  ⟨false, 170, some ⟨0, 3, 0, 0, 0⟩, "ref.go:115", "ref.go:116"⟩,
  ⟨false, 171, some ⟨0, 0, 14, 13, 0⟩, "ref.go:117", "ref.go:118"⟩,
  ⟨false, 172, some ⟨0, 0, 0, 13, 0⟩, "ref.go:119", "ref.go:120"⟩,
  ⟨false, 173, some ⟨3, 10, 10, 9, 4⟩, "ref.go:121", "ref.go:122"⟩,
  ⟨false, 180, some ⟨0, 0, 0, 13, 0⟩, "ref.go:123", "ref.go:124"⟩,
  ⟨false, 181, some ⟨0, 3, 0, 0, 0⟩, "ref.go:125", "ref.go:126"⟩,
  ⟨false, 182, some ⟨0, 0, 0, 13, 0⟩, "ref.go:127", "ref.go:128"⟩,
  ⟨false, 183, some ⟨0, 5, 0, 13, 0⟩, "ref.go:129", "ref.go:130"⟩,
  ⟨false, 185, some ⟨0, 0, 0, 13, 0⟩, "ref.go:131", "ref.go:132"⟩,
  ⟨false, 186, some ⟨0, 3, 0, 0, 0⟩, "ref.go:133", "ref.go:134"⟩,
  ⟨false, 187, some ⟨0, 0, 14, 13, 0⟩, "ref.go:135", "ref.go:136"⟩,
  ⟨false, 191, some ⟨0, 0, 0, 13, 0⟩, "ref.go:137", "ref.go:138"⟩,
  ⟨false, 767, some ⟨0, 3, 0, 0, 0⟩, "ref.go:139", "ref.go:140"⟩,
  ⟨false, 879, some ⟨4, 10, 7, 8, 4⟩, "ref.go:141", "ref.go:142"⟩,
  ⟨false, 1423, some ⟨0, 3, 0, 0, 0⟩, "ref.go:143", "ref.go:144"⟩,
  ⟨false, 1469, some ⟨4, 10, 7, 8, 4⟩, "ref.go:145", "ref.go:146"⟩,
  ⟨false, 1470, some ⟨0, 0, 10, 1, 0⟩, "ref.go:147", "ref.go:148"⟩,
  ⟨false, 1479, some ⟨4, 10, 7, 8, 4⟩, "ref.go:149", "ref.go:150"⟩,
  ⟨true, 1488, none, "ref.go:151", "ref.go:152"⟩,
  ⟨false, 1514, some ⟨0, 3, 0, 1, 0⟩, "ref.go:153", "ref.go:154"⟩,
  ⟨true, 1536, none, "ref.go:155", "ref.go:156"⟩,
  ⟨false, 1541, some ⟨7, 0, 0, 6, 0⟩, "ref.go:157", "ref.go:158"⟩,
  ⟨true, 1548, none, "ref.go:159", "ref.go:160"⟩,
  ⟨false, 1548, some ⟨0, 6, 16, 7, 0⟩, "ref.go:161", "ref.go:162"⟩,
  ⟨true, 1552, none, "ref.go:163", "ref.go:164"⟩,
  ⟨false, 1562, some ⟨4, 10, 7, 8, 4⟩, "ref.go:165", "ref.go:166"⟩,
  ⟨false, 1563, some ⟨0, 0, 15, 2, 0⟩, "ref.go:167", "ref.go:168"⟩,
  ⟨false, 1564, some ⟨3, 10, 7, 2, 4⟩, "ref.go:169", "ref.go:170"⟩,
  ⟨true, 1567, none, "ref.go:171", "ref.go:172"⟩,
  ⟨false, 1567, some ⟨0, 0, 15, 2, 0⟩, "ref.go:173", "ref.go:174"⟩,
  ⟨false, 1568, some ⟨0, 3, 0, 2, 2⟩, "ref.go:175", "ref.go:176"⟩,
  ⟨false, 1569, some ⟨0, 3, 0, 2, 0⟩, "ref.go:177", "ref.go:178"⟩,
  ⟨false, 1573, some ⟨0, 3, 0, 2, 1⟩, "ref.go:179", "ref.go:180"⟩]
def cases2 : List Case := [
  ⟨false, 1574, some ⟨0, 3, 0, 2, 2⟩, "ref.go:181", "ref.go:182"⟩,
  ⟨false, 1575, some ⟨0, 3, 0, 2, 1⟩, "ref.go:183", "ref.go:184"⟩,
  ⟨false, 1576, some ⟨0, 3, 0, 2, 2⟩, "ref.go:185", "ref.go:186"⟩,
  ⟨false, 1577, some ⟨0, 3, 0, 2, 1⟩, "ref.go:187", "ref.go:188"⟩,
  ⟨false, 1582, some ⟨0, 3, 0, 2, 2⟩, "ref.go:189", "ref.go:190"⟩,
  ⟨false, 1586, some ⟨0, 3, 0, 2, 1⟩, "ref.go:191", "ref.go:192"⟩,
  ⟨false, 1599, some ⟨0, 3, 0, 2, 2⟩, "ref.go:193", "ref.go:194"⟩,
  ⟨false, 1600, some ⟨0, 3, 0, 2, 3⟩, "ref.go:195", "ref.go:196"⟩,
  ⟨false, 1607, some ⟨0, 3, 0, 2, 2⟩, "ref.go:197", "ref.go:198"⟩,
  ⟨false, 1608, some ⟨0, 3, 0, 2, 1⟩, "ref.go:199", "ref.go:200"⟩,
  ⟨false, 1610, some ⟨0, 3, 0, 2, 2⟩, "ref.go:201", "ref.go:202"⟩,
  ⟨false, 1631, some ⟨4, 10, 7, 8, 4⟩, "ref.go:203", "ref.go:204"⟩,
  ⟨false, 1641, some ⟨0, 4, 17, 6, 0⟩, "ref.go:205", "ref.go:206"⟩,
  ⟨false, 1642, some ⟨0, 0, 0, 5, 0⟩, "ref.go:207", "ref.go:208"⟩,
  ⟨false, 1644, some ⟨0, 6, 16, 6, 0⟩, "ref.go:209", "ref.go:210"⟩,
  ⟨true, 1648, none, "ref.go:211", "ref.go:212"⟩,
  ⟨false, 1648, some ⟨4, 10, 7, 8, 4⟩, "ref.go:213", "ref.go:214"⟩,
  ⟨false, 1655, some ⟨0, 3, 0, 2, 1⟩, "ref.go:215", "ref.go:216"⟩,
  ⟨false, 1671, some ⟨0, 3, 0, 2, 2⟩, "ref.go:217", "ref.go:218"⟩,
  ⟨false, 1689, some ⟨0, 3, 0, 2, 1⟩, "ref.go:219", "ref.go:220"⟩,
  ⟨false, 1727, some ⟨0, 3, 0, 2, 2⟩, "ref.go:221", "ref.go:222"⟩,
  ⟨false, 1739, some ⟨0, 3, 0, 2, 1⟩, "ref.go:223", "ref.go:224"⟩,
  ⟨false, 1747, some ⟨0, 3, 0, 2, 2⟩, "ref.go:225", "ref.go:226"⟩,
  ⟨true, 1750, none, "ref.go:227", "ref.go:228"⟩,
  ⟨false, 1756, some ⟨4, 10, 7, 8, 4⟩, "ref.go:229", "ref.go:230"⟩,
  ⟨true, 1776, none, "ref.go:231", "ref.go:232"⟩,
  ⟨false, 1785, some ⟨0, 4, 17, 3, 0⟩, "ref.go:233", "ref.go:234"⟩,
  ⟨true, 2304, none, "ref.go:235", "ref.go:236"⟩,
  ⟨false, 2306, some ⟨4, 10, 7, 8, 0⟩, "ref.go:237", "ref.go:238"⟩,
  ⟨false, 2307, some ⟨8, 10, 7, 0, 0⟩, "ref.go:239", "ref.go:240"⟩,
  ⟨false, 2361, some ⟨0, 3, 0, 0, 0⟩, "ref.go:241", "ref.go:242"⟩,
  ⟨true, 2364, none, "ref.go:243", "ref.go:244"⟩,
  ⟨false, 2364, some ⟨4, 10, 7, 8, 0⟩, "ref.go:245", "ref.go:246"⟩,
  ⟨true, 2366, none, "ref.go:247", "ref.go:248"⟩,
  ⟨false, 2368, some ⟨8, 10, 7, 0, 0⟩, "ref.go:249", "ref.go:250"⟩,
  ⟨false, 2376, some ⟨4, 10, 7, 8, 0⟩, "ref.go:251", "ref.go:252"⟩,
  ⟨false, 2380, some ⟨8, 10, 7, 0, 0⟩, "ref.go:253", "ref.go:254"⟩,
  ⟨false, 2381, some ⟨4, 10, 7, 8, 0⟩, "ref.go:255", "ref.go:256"⟩,
  ⟨true, 2406, none, "ref.go:257", "ref.go:258"⟩,
  ⟨false, 2415, some ⟨0, 4, 17, 0, 0⟩, "ref.go:259", "ref.go:260"⟩]
def cases3 : List Case := [
  ⟨true, 4352, none, "ref.go:261", "ref.go:262"⟩,
  ⟨false, 4447, some ⟨9, 3, 18, 0, 0⟩, "ref.go:263", "ref.go:264"⟩,
  ⟨false, 4519, some ⟨10, 3, 18, 0, 0⟩, "ref.go:265", "ref.go:266"⟩,
  ⟨false, 4607, some ⟨11, 3, 18, 0, 0⟩, "ref.go:267", "ref.go:268"⟩,
  ⟨true, 8192, none, "ref.go:269", "ref.go:270"⟩,
  ⟨false, 8198, some ⟨0, 2, 10, 12, 0⟩, "ref.go:271", "ref.go:272"⟩,
  ⟨false, 8199, some ⟨0, 0, 9, 12, 0⟩, "ref.go:273", "ref.go:274"⟩,
  ⟨false, 8202, some ⟨0, 2, 10, 12, 0⟩, "ref.go:275", "ref.go:276"⟩,
  ⟨false, 8203, some ⟨3, 0, 5, 9, 0⟩, "ref.go:277", "ref.go:278"⟩,
  ⟨false, 8204, some ⟨4, 10, 7, 9, 0⟩, "ref.go:279", "ref.go:280"⟩,
  ⟨false, 8205, some ⟨5, 11, 6, 9, 3⟩, "ref.go:281", "ref.go:282"⟩,
  ⟨false, 8206, some ⟨3, 10, 7, 0, 4⟩, "ref.go:283", "ref.go:284"⟩,
  ⟨false, 8207, some ⟨3, 10, 7, 1, 4⟩, "ref.go:285", "ref.go:286"⟩,
  ⟨false, 8208, some ⟨0, 0, 10, 13, 0⟩, "ref.go:287", "ref.go:288"⟩,
  ⟨false, 8209, some ⟨0, 0, 9, 13, 0⟩, "ref.go:289", "ref.go:290"⟩,
  ⟨false, 8212, some ⟨0, 0, 10, 13, 0⟩, "ref.go:291", "ref.go:292"⟩,
  ⟨false, 8215, some ⟨0, 0, 0, 13, 0⟩, "ref.go:293", "ref.go:294"⟩,
  ⟨false, 8216, some ⟨0, 0, 14, 13, 0⟩, "ref.go:295", "ref.go:296"⟩,
  ⟨false, 8217, some ⟨0, 7, 14, 13, 0⟩, "ref.go:297", "ref.go:298"⟩,
  ⟨false, 8218, some ⟨0, 0, 12, 13, 0⟩, "ref.go:299", "ref.go:300"⟩,
  ⟨true, 8220, none, "ref.go:301", "ref.go:302"⟩,
  ⟨false, 8221, some ⟨0, 0, 14, 13, 0⟩, "ref.go:303", "ref.go:304"⟩,
  ⟨true, 8232, none, "ref.go:305", "ref.go:306"⟩,
  ⟨false, 8232, some ⟨3, 1, 1, 12, 0⟩, "ref.go:307", "ref.go:308"⟩,
  ⟨false, 8233, some ⟨3, 1, 1, 10, 0⟩, "ref.go:309", "ref.go:310"⟩,
  ⟨false, 8234, some ⟨3, 10, 7, 14, 4⟩, "ref.go:311", "ref.go:312"⟩,
  ⟨false, 8235, some ⟨3, 10, 7, 16, 4⟩, "ref.go:313", "ref.go:314"⟩,
  ⟨false, 8236, some ⟨3, 10, 7, 18, 4⟩, "ref.go:315", "ref.go:316"⟩,
  ⟨false, 8237, some ⟨3, 10, 7, 15, 4⟩, "ref.go:317", "ref.go:318"⟩,
  ⟨false, 8238, some ⟨3, 10, 7, 17, 4⟩, "ref.go:319", "ref.go:320"⟩,
  ⟨true, 8240, none, "ref.go:321", "ref.go:322"⟩,
  ⟨false, 8244, some ⟨0, 0, 0, 5, 0⟩, "ref.go:323", "ref.go:324"⟩,
  ⟨true, 8255, none, "ref.go:325", "ref.go:326"⟩,
  ⟨false, 8256, some ⟨0, 8, 0, 13, 0⟩, "ref.go:327", "ref.go:328"⟩,
  ⟨true, 8288, none, "ref.go:329", "ref.go:330"⟩,
  ⟨false, 8288, some ⟨3, 10, 8, 9, 4⟩, "ref.go:331", "ref.go:332"⟩,
  ⟨true, 8294, none, "ref.go:333", "ref.go:334"⟩,
  ⟨false, 8294, some ⟨3, 10, 7, 19, 0⟩, "ref.go:335", "ref.go:336"⟩,
  ⟨false, 8295, some ⟨3, 10, 7, 20, 0⟩, "ref.go:337", "ref.go:338"⟩,
  ⟨false, 8296, some ⟨3, 10, 7, 21, 0⟩, "ref.go:339", "ref.go:340"⟩]
def cases4 : List Case := [
  ⟨false, 8297, some ⟨3, 10, 7, 22, 0⟩, "ref.go:341", "ref.go:342"⟩,
  ⟨true, 8352, none, "ref.go:343", "ref.go:344"⟩,
  ⟨false, 8399, some ⟨0, 0, 0, 5, 0⟩, "ref.go:345", "ref.go:346"⟩,
  ⟨false, 8432, some ⟨4, 10, 7, 8, 4⟩, "ref.go:347", "ref.go:348"⟩,
  ⟨true, 8592, none, "ref.go:349", "ref.go:350"⟩,
  ⟨false, 8959, some ⟨0, 0, 0, 13, 0⟩, "ref.go:351", "ref.go:352"⟩,
  ⟨true, 9728, none, "ref.go:353", "ref.go:354"⟩,
  ⟨false, 10175, some ⟨14, 0, 18, 13, 0⟩, "ref.go:355", "ref.go:356"⟩,
  ⟨true, 12288, none, "ref.go:357", "ref.go:358"⟩,
  ⟨false, 12288, some ⟨0, 2, 10, 12, 0⟩, "ref.go:359", "ref.go:360"⟩,
  ⟨false, 12290, some ⟨0, 0, 13, 13, 0⟩, "ref.go:361", "ref.go:362"⟩,
  ⟨true, 12293, none, "ref.go:363", "ref.go:364"⟩,
  ⟨false, 12295, some ⟨0, 0, 18, 0, 0⟩, "ref.go:365", "ref.go:366"⟩,
  ⟨false, 12296, some ⟨0, 0, 12, 13, 0⟩, "ref.go:367", "ref.go:368"⟩,
  ⟨false, 12297, some ⟨0, 0, 13, 13, 0⟩, "ref.go:369", "ref.go:370"⟩,
  ⟨false, 12298, some ⟨0, 0, 12, 13, 0⟩, "ref.go:371", "ref.go:372"⟩,
  ⟨false, 12299, some ⟨0, 0, 13, 13, 0⟩, "ref.go:373", "ref.go:374"⟩,
  ⟨false, 12300, some ⟨0, 0, 12, 13, 0⟩, "ref.go:375", "ref.go:376"⟩,
  ⟨false, 12301, some ⟨0, 0, 13, 13, 0⟩, "ref.go:377", "ref.go:378"⟩,
  ⟨false, 12302, some ⟨0, 0, 12, 13, 0⟩, "ref.go:379", "ref.go:380"⟩,
  ⟨false, 12303, some ⟨0, 0, 13, 13, 0⟩, "ref.go:381", "ref.go:382"⟩,
  ⟨false, 12304, some ⟨0, 0, 12, 13, 0⟩, "ref.go:383", "ref.go:384"⟩,
  ⟨false, 12305, some ⟨0, 0, 13, 13, 0⟩, "ref.go:385", "ref.go:386"⟩,
  ⟨true, 12353, none, "ref.go:387", "ref.go:388"⟩,
  ⟨false, 12438, some ⟨0, 0, 18, 0, 0⟩, "ref.go:389", "ref.go:390"⟩,
  ⟨true, 12441, none, "ref.go:391", "ref.go:392"⟩,
  ⟨false, 12442, some ⟨4, 10, 7, 8, 4⟩, "ref.go:393", "ref.go:394"⟩,
  ⟨true, 12449, none, "ref.go:395", "ref.go:396"⟩,
  ⟨false, 12538, some ⟨0, 9, 18, 0, 0⟩, "ref.go:397", "ref.go:398"⟩,
  ⟨true, 12540, none, "ref.go:399", "ref.go:400"⟩,
  ⟨false, 12540, some ⟨0, 9, 18, 0, 0⟩, "ref.go:401", "ref.go:402"⟩,
  ⟨true, 13312, none, "ref.go:403", "ref.go:404"⟩,
  ⟨false, 40959, some ⟨0, 0, 18, 0, 0⟩, "ref.go:405", "ref.go:406"⟩,
  ⟨true, 64285, none, "ref.go:407", "ref.go:408"⟩,
  ⟨false, 64335, some ⟨0, 3, 0, 1, 0⟩, "ref.go:409", "ref.go:410"⟩,
  ⟨false, 65023, some ⟨0, 3, 0, 2, 0⟩, "ref.go:411", "ref.go:412"⟩,
  ⟨false, 65039, some ⟨4, 10, 7, 8, 4⟩, "ref.go:413", "ref.go:414"⟩,
  ⟨true, 65136, none, "ref.go:415", "ref.go:416"⟩,
  ⟨false, 65276, some ⟨0, 3, 0, 2, 0⟩, "ref.go:417", "ref.go:418"⟩,
  ⟨true, 65279, none, "ref.go:419", "ref.go:420"⟩]
def cases5 : List Case := [
  ⟨false, 65279, some ⟨3, 10, 8, 9, 4⟩, "ref.go:421", "ref.go:422"⟩,
  ⟨true, 127462, none, "ref.go:423", "ref.go:424"⟩,
  ⟨false, 127487, some ⟨6, 12, 19, 0, 0⟩, "ref.go:425", "ref.go:426"⟩,
  ⟨true, 127744, none, "ref.go:427", "ref.go:428"⟩,
  ⟨false, 127994, some ⟨14, 0, 18, 13, 0⟩, "ref.go:429", "ref.go:430"⟩,
  ⟨false, 127999, some ⟨4, 10, 7, 13, 4⟩, "ref.go:431", "ref.go:432"⟩,
  ⟨false, 129791, some ⟨14, 0, 18, 13, 0⟩, "ref.go:433", "ref.go:434"⟩,
  ⟨true, 131072, none, "ref.go:435", "ref.go:436"⟩,
  ⟨false, 262141, some ⟨0, 0, 18, 0, 0⟩, "ref.go:437", "ref.go:438"⟩,
  ⟨true, 917760, none, "ref.go:439", "ref.go:440"⟩,
  ⟨false, 917999, some ⟨4, 10, 7, 8, 4⟩, "ref.go:441", "ref.go:442"⟩]
def cases : List Case := cases0 ++ (cases1 ++ (cases2 ++ (cases3 ++ (cases4 ++ (cases5)))))

def Below37 (r : Int) (v : Row) (w : World) (e : Ending) (w' : World) : Prop := e = .returned (.agg v.cells) ∧ Below w.heap.size w w'

theorem res37 (a' : Act) (W : World) (H : Nat) (v : Row) (R : Ending → World → Prop) (h2 : a'.eval (.tmp 2) = .pointer (some ⟨H, 0, none⟩)) (hd : a'.defers = []) (hb : Blk W H 59 v.cells) (hR : R (.returned (.agg v.cells)) W) : bodyPost Try.prog Try.f37 R .ret a' W := by
  have c0 : W.cell? ⟨H, 0, none⟩ = some (.int .i64 v.c) := by rw [hb.cell]; rfl
  have c1 : W.cell? ⟨H, 1, none⟩ = some (.int .i64 v.w) := by rw [hb.cell]; rfl
  have c2 : W.cell? ⟨H, 2, none⟩ = some (.int .i64 v.l) := by rw [hb.cell]; rfl
  have c3 : W.cell? ⟨H, 3, none⟩ = some (.int .i64 v.d) := by rw [hb.cell]; rfl
  have c4 : W.cell? ⟨H, 4, none⟩ = some (.int .i64 v.j) := by rw [hb.cell]; rfl
  have h2' : a'.tmps[2]?.getD undef = .pointer (some ⟨H, 0, none⟩) := by simpa [Act.eval] using h2
  exact bodyPost_ret (v := .agg v.cells) (by simp [results, Try.results37, go_sem, h2', c0, c1, c2, c3, c4, Row.cells]) hd hR

theorem cases_len : cases.length = 211 := by kernel_rfl

set_option maxRecDepth 1000000 in
theorem rfind_low (r : Int) (w : World) (h1 : r < 44032 ∨ 55203 < r) : Calls Try.prog 37 #[.int .i32 r] w (Below37 r ((pick cases r).getD Row.zero) w) := by
  rcases h1 with h1 | h1
  · have hd : decide (44032 ≤ r) = false := by simpa using h1
    go_enter Try.func37, Try.ntmps37
    go_upto_block 0 with fail
    refine wp_block ?_
    change (chain 6 17 cases).wp Try.prog _ _ _
    refine chain_wp r w.heap.size _ _ _ _ _ _ _ (Blk.new w 59 _) cases 6 17 _ rfl rfl ?_ (by omega) ?_ ?_
    · rw [cases_len]
      simp
    · intro v a' hp hk
      refine res37 a' _ w.heap.size v _ ((hk.slots 2 (by omega)).trans rfl) hk.defers (set5_blk (Blk.new w 59 _) v) ⟨by rw [hp]; rfl, ((Below.refl _ _).alloc (Nat.le_refl _) _).trans (set5_below v (Nat.le_refl _))⟩
    · intro a' hp hk
      rename_i K hK
      show K a' _
      apply hK
      change ((Code.region 428 (rowOps 858 ⟨true, 0, none, "", "ref.go:444"⟩).toArray false).seq .ret).wp Try.prog _ _ _
      refine row_wp 858 ⟨true, 0, none, "", "ref.go:444"⟩ 428 w.heap.size a' _ _ _ _ _ _ _ ((hk.slots 2 (by omega)).trans rfl) (by rw [hk.size]; simp) (by omega) (Blk.new w 59 _) fun a2 k2 => ?_
      exact res37 a2 _ w.heap.size Row.zero _ ((k2.slots 2 (by omega)).trans ((hk.slots 2 (by omega)).trans rfl)) (k2.defers.trans hk.defers) (set5_blk (Blk.new w 59 _) _) ⟨by rw [hp]; rfl, ((Below.refl _ _).alloc (Nat.le_refl _) _).trans (set5_below _ (Nat.le_refl _))⟩
  · have hd : decide (44032 ≤ r) = true := by simp; omega
    have hd2 : decide (r ≤ 55203) = false := by simpa using h1
    go_enter Try.func37, Try.ntmps37
    go_upto_block 0 with fail
    refine wp_block ?_
    change (chain 6 17 cases).wp Try.prog _ _ _
    refine chain_wp r w.heap.size _ _ _ _ _ _ _ (Blk.new w 59 _) cases 6 17 _ rfl rfl ?_ (by omega) ?_ ?_
    · rw [cases_len]
      simp
    · intro v a' hp hk
      refine res37 a' _ w.heap.size v _ ((hk.slots 2 (by omega)).trans rfl) hk.defers (set5_blk (Blk.new w 59 _) v) ⟨by rw [hp]; rfl, ((Below.refl _ _).alloc (Nat.le_refl _) _).trans (set5_below v (Nat.le_refl _))⟩
    · intro a' hp hk
      rename_i K hK
      show K a' _
      apply hK
      change ((Code.region 428 (rowOps 858 ⟨true, 0, none, "", "ref.go:444"⟩).toArray false).seq .ret).wp Try.prog _ _ _
      refine row_wp 858 ⟨true, 0, none, "", "ref.go:444"⟩ 428 w.heap.size a' _ _ _ _ _ _ _ ((hk.slots 2 (by omega)).trans rfl) (by rw [hk.size]; simp) (by omega) (Blk.new w 59 _) fun a2 k2 => ?_
      exact res37 a2 _ w.heap.size Row.zero _ ((k2.slots 2 (by omega)).trans ((hk.slots 2 (by omega)).trans rfl)) (k2.defers.trans hk.defers) (set5_blk (Blk.new w 59 _) _) ⟨by rw [hp]; rfl, ((Below.refl _ _).alloc (Nat.le_refl _) _).trans (set5_below _ (Nat.le_refl _))⟩

set_option maxRecDepth 1000000 in
theorem rfind_mid (r : Int) (w : World) (h1 : 44032 ≤ r) (h2 : r ≤ 55203) (h3 : ¬ (r - 44032) % 28 = 0) : Calls Try.prog 37 #[.int .i32 r] w (Below37 r ⟨13, 3, 18, 0, 0⟩ w) := by
  have hb : ((r - 44032) % 28 == 0) = false := by simpa using h3
  go_enter Try.func37, Try.ntmps37
  go_wp2
  exact res37 _ _ w.heap.size ⟨13, 3, 18, 0, 0⟩ _ rfl rfl ((Blk.new w 59 _).alloc _) ⟨rfl, ((Below.refl _ _).alloc (Nat.le_refl _) _).alloc (by simp) _⟩

set_option maxRecDepth 1000000 in
theorem rfind_mid0 (r : Int) (w : World) (h1 : 44032 ≤ r) (h2 : r ≤ 55203) (h3 : (r - 44032) % 28 = 0) : Calls Try.prog 37 #[.int .i32 r] w (Below37 r ⟨12, 3, 18, 0, 0⟩ w) := by
  have hb : ((r - 44032) % 28 == 0) = true := by simpa using h3
  clear h3
  go_enter Try.func37, Try.ntmps37
  go_wp2
  exact res37 _ _ w.heap.size ⟨12, 3, 18, 0, 0⟩ _ rfl rfl ((Blk.new w 59 _).alloc _) ⟨rfl, ((Below.refl _ _).alloc (Nat.le_refl _) _).alloc (by simp) _⟩

/-- The reference's table as a function. -/
def rfind (r : Int) : Row := if 44032 ≤ r ∧ r ≤ 55203 then (if (r - 44032) % 28 = 0 then ⟨12, 3, 18, 0, 0⟩ else ⟨13, 3, 18, 0, 0⟩) else (pick cases r).getD Row.zero

theorem rfind_any (r : Int) (w : World) : Calls Try.prog 37 #[.int .i32 r] w (Below37 r (rfind r) w) := by
  unfold rfind
  by_cases h : 44032 ≤ r ∧ r ≤ 55203
  · rw [if_pos h]
    by_cases h3 : (r - 44032) % 28 = 0
    · rw [if_pos h3]; exact rfind_mid0 r w h.1 h.2 h3
    · rw [if_neg h3]; exact rfind_mid r w h.1 h.2 h3
  · rw [if_neg h]; exact rfind_low r w (by omega)
end Go.Proofs.Ytagokefbbdlpcaa
